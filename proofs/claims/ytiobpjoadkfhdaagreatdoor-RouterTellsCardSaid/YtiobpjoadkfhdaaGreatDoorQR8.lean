/- Texts joined: G22 G30 FWN MB FC U20 MG U21 U19 U23 G31 G32 U16 G33 G34. -/
import Derived.Test.YtiobpjoadkfhdaaGreatDoorQR7
set_option linter.unusedVariables false
set_option linter.unusedSimpArgs false
set_option linter.unusedSectionVars false
namespace Go.Proofs.YtiobpjoadkfhdaaGreatDoor
open Go Go.Am
def H3(s:Spk)(router:Int)(t0:Int×Int×List Sig):NF:=⟨[rI 1 router,rR 2 0,rI 7 (fq s.peers router),rV 8 1,rI 9 t0.1,(32,.k,.sl 4 (s.items.map Itm.v) false),rI 33 ((s.items.map Itm.v).length:Int),rI 34 t0.2.1],[.box (Spk.v s),vB 10 Sig.v t0.2.2 (λ_=>rfl)]⟩
@[reducible] def BS:Nat→Type
 | 0=>Int×Int×List Sig
 | _=>Unit
def BT(r:List Sig×Int):AV:=.tup [.sl 10 (r.1.map Sig.v) false,.int r.2]
def BR(s:Spk)(router:Int)(I0:(Int×Int×List Sig)→Prop)(m0:(Int×Int×List Sig)→Nat):Ax Tryz.prog BS (List Sig×Int):=
 (.callP (jP s)
(.br 128 ((dd s) != 0) (.ret ([],dd s))
(.callP (CA s router)
(.br 224 (decide ((fq s.peers router)<0)) (.ret ([],4))
(.own 352 (.cmdL (.wkB 352 (.a [.k,.k,.k,.k,.k,.k,.k,.k,.k,(.s 1)])) (.loop 0 (H3 s router) I0 m0 (0,0,[(⟨1,s.router,router,s.epoch,s.last,0,0,0,0,[]⟩:Sig)]) [0,352] λ(t0:Int×Int×List Sig) b0 =>
(.br 18 (decide (t0.2.1<((s.items.map Itm.v).length:Int))) (.elI 18 Itm.v s.items t0.2.1 λx1 =>
(.elI 162 Per.v s.peers (fq s.peers router) λx2 =>
(.br 226 (decide (x2.acked<x1.ver)) (.own 450 (.apX 466 Sig.v t0.2.2 [(⟨2,s.router,router,s.epoch,x1.ver,t0.1,0,x1.grp,x1.mode,x1.srcs⟩:Sig)] (t0.2.2.length+1)
(.bk 0 b0 (x1.ver,W (t0.2.1+1),t0.2.2++[(⟨2,s.router,router,s.epoch,x1.ver,t0.1,0,x1.grp,x1.mode,x1.srcs⟩:Sig)]) [0,466])))
(.bk 0 b0 (x1.ver,W (t0.2.1+1),t0.2.2) [0,1]))))
(.fz 1 Sig.v t0.2.2 (λ_=>rfl) (.ret (t0.2.2,0)))))))))))
theorem Nt(s:Spk)(r:Int):∃I0 m0,(BR s r I0 m0).vp BT (send s r):=by
 let ak:=(s.peers.getD (iL s.peers r) ⟨0,0,0⟩).acked
 refine⟨λt=>∃k:Nat,t.2.1=k∧k≤s.items.length∧t.2.2.length≤k+1∧cw s r::aL s r ak 0 s.items=t.2.2++aL s r ak t.1 (s.items.drop k),λt=>s.items.length-t.2.1.toNat,?_⟩;dsimp only[BR,BS,Ax.vp,Ax.vc];simp only[vcU,rfU,f'];have hv:dd s=if aV s then 0 else 1:=rfl
 rw[hv];by_cases hs:aV s
 case neg=>simp[send,hs]
 rw[if_pos hs,wV hs.2.2.2.2.2.2]
 refine⟨λe=>by simp at e,λ_=>⟨λe=>?_,λe=>?_⟩⟩
 ·rw[send,u' (not_not_intro hs),if_pos];intro q;rw[if_pos q]at e;omega
 have e:ub s.peers r:=by
  refine ae' λq=>e ?_;rw[u' q];omega
 rw[if_pos e,Int.toNat_natCast];have fin:send s r=(cw s r::aL s r ak 0 s.items,0):=by rw[send,u' (not_not_intro hs),u' (not_not_intro e)]
 have hil:=gk hs.2.2.2.1;refine⟨⟨0,rfl,by omega,by simp,rfl⟩,?_⟩;rintro⟨prev,_,acc⟩ ⟨k,rfl,hk,hal,h⟩;simp only[Int.toNat_natCast]at *
 refine⟨λh1=>⟨by omega,by omega,λx hx=>⟨by omega,by have:=e.1;omega,λy hy=>?_⟩⟩,λh1=>?_⟩
 ·have hy:ak=y.acked:=by show(s.peers.getD (iL s.peers r) ⟨0,0,0⟩).acked=_;rw[getD_some hy]
  have hd:s.items.drop k=x::s.items.drop (k+1):=by
   have hkl:=av hx;rw[ar' hkl];rw[E' hkl]at hx;rw[ao' hx]
  rw[hd,aL]at h;rw[am (n:=s.items.length) (by omega) (by omega)]
  refine⟨λe3=>⟨by omega,⟨k+1,rfl,by omega,by simp;omega,?_⟩,by omega⟩,λe3=>⟨⟨k+1,rfl,by omega,by omega,?_⟩,by omega⟩⟩
  ·rw[h,if_pos (by omega)];simp[lH]
  ·rw[h,u' (by omega)];simp
 ·rw[bn' (by omega),aL,az']at h;rw[fin,h]
def Nu(s:Spk)(router:Int):PC Tryz.prog:=pcO 63 [(.a [.k,.k,.k,(.s 4),(.s 3)]),.k] [Spk.v s,.int router] (.a [(.s 10),.k]) BT (send s router) (λ_=>let ⟨I0,m0,h⟩:=Nt s router;⟨_,h,by kernel_rfl⟩) rfl (by kernel_rfl)
def Qp(s:Spk)(x:Sig)(t0:Bool):NF:=⟨[rR 2 0,rR 3 1,rR 4 2,rB 33 t0],[.box (Spk.v s),.box (Sig.v x),.box (.agg [.int 0,.int 0,.int 0,.sl 0 [] true,.sl 0 [] true])]⟩
def Qo(s:Spk)(x:Sig)(t1:Int):NF:=⟨[rR 2 0,rR 3 1,rR 4 2,rI 8 (fq s.peers x.src),rI 9 t1],[.box (Spk.v s),.box (Sig.v x),.box (.agg [.int 0,.int 0,.int 0,.sl 0 [] true,.sl 0 [] true])]⟩
def Qn(s:Spk)(x:Sig)(t2:Bool):NF:=⟨[rR 2 0,rR 3 1,rR 4 2,rI 8 (fq s.peers x.src),rI 9 0,rB 53 t2],[.box (Spk.v s),.box (Sig.v x),.box (.agg [.int 0,.int 0,.int 0,.sl 0 [] true,.sl 0 [] true])]⟩
@[reducible] def Mh:Nat→Type
 | 0=>Bool
 | 1=>Int
 | 2=>Bool
 | _=>Unit
def Mi(r:Spk×Int):AV:=.tup [Spk.v r.1,.int r.2]
def Mg(s:Spk)(x:Sig)(I0:Bool→Prop)(I1:Bool→Int→Prop)(I2:Bool→Bool→Prop):Ax Tryz.prog Mh (Spk×Int):=
 (.callP (jP s)
(.br 144 ((dd s) != 0) (.ret ((⟨0,0,0,[],[]⟩:Spk),dd s))
(.callP (tn x)
(.br 224 ((aF x) != 0) (.ret ((⟨0,0,0,[],[]⟩:Spk),aF x))
(.pass (.join 0 (Qp s x) (λ(t0:Bool)=>I0 t0) (λb0=>(.br 288 (x.kind != 3) (.bk 0 b0 ((true):Bool) [0,16,32])
(.bk 0 b0 ((x.dst != s.router):Bool) [0,16,32]))) λ(t0:Bool) =>
(.br 3 t0 (.ret ((⟨0,0,0,[],[]⟩:Spk),1))
(.callP (CA s x.src)
(.br 115 (decide ((fq s.peers x.src)<0)) (.ret ((⟨0,0,0,[],[]⟩:Spk),4))
(.pass (.join 1 (Qo s x) (λ(t1:Int)=>I1 t0 t1) (λb1=>(.join 2 (Qn s x) (λ(t2:Bool)=>I2 t0 t2) (λb2=>(.br 227 (x.epoch==s.epoch) (.bk 2 b2 ((decide (x.ver≤s.last)):Bool) [0,1,2])
(.bk 2 b2 ((false):Bool) [0,1,2]))) λ(t2:Bool) =>
(.br 3 t2 (.bk 1 b1 ((x.ver):Int) [0,1,2])
(.bk 1 b1 ((0):Int) [0,1,2])))) λ(t1:Int) =>
(.apX 99 Per.v [] s.peers (0+s.peers.length)
(.elJ 307 Per.v s.peers (fq s.peers x.src) λx1 =>
(.br 355 (decide (x1.epoch<x.pep)) (.stX 467 Per.v s.peers ((fq s.peers x.src).toNat) (λy2=>(⟨y2.router,x.pep,y2.acked⟩:Per)) λy2 =>
(.stX 515 Per.v (s.peers.set ((fq s.peers x.src).toNat) (⟨y2.router,x.pep,y2.acked⟩:Per)) ((fq s.peers x.src).toNat) (λy3=>(⟨y3.router,y3.epoch,t1⟩:Per)) λy3 =>
(.fz 99 Per.v ((s.peers.set ((fq s.peers x.src).toNat) (⟨y2.router,x.pep,y2.acked⟩:Per)).set ((fq s.peers x.src).toNat) (⟨y3.router,y3.epoch,t1⟩:Per)) (λ_=>rfl) (.ret ((⟨s.router,s.epoch,s.last,s.items,(s.peers.set ((fq s.peers x.src).toNat) (⟨y2.router,x.pep,y2.acked⟩:Per)).set ((fq s.peers x.src).toNat) (⟨y3.router,y3.epoch,t1⟩:Per)⟩:Spk),0)))))
(.elX 435 Per.v s.peers ((fq s.peers x.src).toNat) λx4 =>
(.br 483 (x.pep==x4.epoch) (.elX 547 Per.v s.peers ((fq s.peers x.src).toNat) λx5 =>
(.stX 627 Per.v s.peers ((fq s.peers x.src).toNat) (λy6=>(⟨y6.router,y6.epoch,iq x5.acked t1⟩:Per)) λy6 =>
(.fz 99 Per.v (s.peers.set ((fq s.peers x.src).toNat) (⟨y6.router,y6.epoch,iq x5.acked t1⟩:Per)) (λ_=>rfl) (.ret ((⟨s.router,s.epoch,s.last,s.items,s.peers.set ((fq s.peers x.src).toNat) (⟨y6.router,y6.epoch,iq x5.acked t1⟩:Per)⟩:Spk),0)))))
(.fz 99 Per.v s.peers (λ_=>rfl) (.ret (s,0)))))))))))))))))))
theorem TX(s:Spk)(x:Sig):∃I0 I1 I2,(Mg s x I0 I1 I2).vp Mi (ack s x):=by
 refine⟨λb=>b=decide (x.kind≠3∨x.dst≠s.router),λb v=>v=l9 s x,λb c=>c=decide (x.epoch=s.epoch∧x.ver≤s.last),?_⟩;dsimp only[Mg,Mh,Ax.vp,Ax.vc];simp only[vcU,rfU,f'];have hv:dd s=if aV s then 0 else 1:=rfl
 rw[hv];unfold ack;by_cases hs:aV s
 case neg=>rw[u' hs,if_pos hs];simp[eP]
 rw[if_pos hs,u' (not_not_intro hs),wV hs.2.2.2.2.2.2]
 refine⟨λe=>by simp at e,λ_=>⟨λe=>?_,λe=>⟨⟨λk=>?_,λk=>?_⟩,λb hb=>⟨λc=>?_,λc=>?_⟩⟩⟩⟩
 ·rw[if_pos (by simpa using e)];rfl
 ·exact(decide_eq_true (.inl (by simpa using k))).symm
 ·have k:x.kind=3:=by simpa using k
  by_cases q:x.dst=s.router<;>simp[q,k]
 ·subst hb;have e0:¬aF x≠0:=by simpa using e
  rw[u' e0,if_pos (by simpa using c)];rfl
 ·subst hb;have c:¬(x.kind≠3∨x.dst≠s.router):=by simpa using c
  have e0:¬aF x≠0:=by simpa using e
  rw[u' e0,u' c];by_cases hit:ub s.peers x.src
  case neg =>
   rw[u' hit,if_pos hit];exact⟨λ_=>rfl,λq=>by omega⟩
  rw[if_pos hit,u' (not_not_intro hit),Int.toNat_natCast];have hp:=hit.1;have hpl:=hs.2.2.2.2.1
  refine⟨λq=>by omega,λ_=>⟨⟨⟨λk=>?_,λk=>?_⟩,λb2 hb2=>⟨λq=>?_,λq=>?_⟩⟩,?_⟩⟩
  ·have k:x.epoch=s.epoch:=by simpa using k
   simp[k]
  ·have k:¬x.epoch=s.epoch:=by simpa using k
   simp[k]
  ·subst hb2;unfold l9;rw[if_pos (by simpa using q)]
  ·subst hb2;unfold l9;rw[u' (by simpa using q)]
  ·rintro _ rfl;have hat:∀y,s.peers[iL s.peers x.src]?=some y→s.peers.getD (iL s.peers x.src) ⟨0,0,0⟩=y:=λy hy=>by rw[J',hy];rfl
   refine⟨by omega,by rw[decide_eq_true (by omega),decide_eq_true (by omega)];rfl,hp,λy hy=>⟨λq=>⟨hp,λy2 hy2=>⟨by simpa using hp,λy3 hy3=>?_⟩⟩,λq=>⟨hp,λy4 hy4=>⟨λq2=>⟨hp,λy5 hy5=>⟨hp,λy6 hy6=>?_⟩⟩,λq2=>?_⟩⟩⟩⟩
   ·rw[hy]at hy2;cases hy2;rw[List.getElem?_set_self hp]at hy3;cases hy3;rw[hat _ hy,List.set_set];unfold dO;rw[if_pos q]
   ·rw[hy]at hy4 hy5 hy6;cases hy4;cases hy5;cases hy6;rw[hat _ hy];unfold dO;rw[u' q,if_pos (by simpa using q2)]
   ·rw[hy]at hy4;cases hy4;rw[hat _ hy];unfold dO;rw[u' q,u' (by simpa using q2)];have:s.peers.set (iL s.peers x.src) y=s.peers:=by
     refine bc' (by simp) λj h1 h2=>?_;rw[bb']
     split
     ·rename_i e';subst e';exact((I'.mp hy).2).symm
     ·rfl
    rw[this]
def TY(s:Spk)(x:Sig):PC Tryz.prog:=pcO 61 [(.a [.k,.k,.k,(.s 4),(.s 3)]),(.a [.k,.k,.k,.k,.k,.k,.k,.k,.k,(.s 1)])] [Spk.v s,Sig.v x] (.a [(.a [.k,.k,.k,(.s 4),(.s 3)]),.k]) Mi (ack s x) (λ_=>let ⟨I0,I1,I2,h⟩:=TX s x;⟨_,h,by kernel_rfl⟩) rfl (by kernel_rfl)
def bld(l:List Hrd)(r:Int)(h:Hrd)(k:Nat):List Hrd:=l.take (min k (bJ l r))++((if bJ l r<k then [h]else [])++((l.take k).drop (bJ l r)).filter λy=>decide (y.router≠r))
theorem ye{l:List Hrd}{r:Int}{h x:Hrd}{k:Nat}(ho:l.Pairwise λx y=>x.router<y.router)(hx:l[k]?=some x) :
  (bJ l r=k↔¬bJ l r<k∧r≤x.router)∧bld l r h (k+1)=bld l r h k++((if bJ l r=k then [h]else [])++if x.router≠r then [x]else []):=by
 obtain⟨hk,hxk⟩:=I'.mp hx;have hlt:k<bJ l r→x.router<r:=λq=>by have:=lT (key:=Hrd.router) (l:=l) (r:=r) q hk;rw[hxk]at this;exact this
 have hge:bJ l r≤k→r≤x.router:=λq=>by have:=tH (key:=Hrd.router) (r:=r) ho hk q;rw[hxk]at this;exact this
 refine⟨⟨λe=>⟨by omega,hge (by omega)⟩,λ⟨e1,e2⟩=>?_⟩,?_⟩
 ·rcases cn' k (bJ l r)with q|q
  ·have:=hlt q;omega
  ·omega
 unfold bld;rw[al hx]
 rcases cm' k (bJ l r)with q|q|q
 ·have h1:=hlt q;rw[u' (by omega),u' (by omega),u' (by omega),if_pos (by omega),aS' (by omega),aS' (by omega)];rw[bn' (by simp;omega),bn' (by simp;omega),al hx];simp
 ·rw[if_pos (by omega),u' (by omega),if_pos q.symm,cq' (by omega),aS' (by omega),←q];rw[List.drop_append_of_le_length (by simp;omega),bn' (by simp;omega)];by_cases e:x.router=r<;>simp[e]
 ·rw[if_pos (by omega),if_pos (by omega),u' (by omega),cq' (by omega),cq' (by omega)];rw[List.drop_append_of_le_length (by simp;omega),aQ'];by_cases e:x.router=r<;>simp[e]
theorem PT{l:List Hrd}{r:Int}{h:Hrd}{k:Nat}:(bld l r h k).length≤l.length+l.length+1:=by
 unfold bld;have:=bg' (λy:Hrd=>decide (y.router≠r)) ((l.take k).drop (bJ l r));simp only[Y',aa',bv']at *
 split<;>simp only[Z',aC']<;>omega
theorem PU{l:List Hrd}{r:Int}{h:Hrd}(ho:l.Pairwise λx y=>x.router<y.router)(hr:h.router=r):bld l r h l.length++(if bJ l r<l.length then []else [h])=(base l r).set (bJ l r) h:=by
 have hp:bJ l r≤l.length:=bG';unfold bld;rw[ai',cq' hp]
 by_cases hh:∃z∈l,z.router=r
 ·have hit:=(dC ho).mpr hh;have hlt:=hit.1;rw[if_pos hlt,if_pos hlt,base,if_pos hit,az',cc',if_pos hlt]
  congr 1
  rw[ar' hlt,bJ'];have h2:(l[bJ l r]'hlt).router=r:=by
   have:=hit.2;rw[J',E' hlt]at this;exact this
  rw[u' (by simp[h2]),bE'.mpr]
  ·rfl
  ·intro y hy;obtain⟨i,hi,rfl⟩:=ad' hy;rw[List.getElem_drop];simp only[bv']at hi;have:=ac'.mp ho (bJ l r) (bJ l r+1+i) hlt (by omega) (by omega);rw[h2]at this;simp only[ne_eq,decide_not,bd',decide_eq_false_iff_not];omega
 ·have hn:¬gD l r:=λq=>hh ((dC ho).mp q);have hf:(l.drop (bJ l r)).filter (λy=>decide (y.router≠r))=l.drop (bJ l r):=bE'.mpr λy hy=>by
   have:=aj' hy;simpa using λe=>hh ⟨y,this,e⟩
  have hb:base l r=l.take (bJ l r)++⟨r,0,0,[]⟩::l.drop (bJ l r):=by rw[base,u' hn,kT]
  have e:=(wK (key:=Hrd.router) (z0:=⟨r,0,0,[]⟩) ho hh hr).1;rw[hf,hb];refine Eq.trans ?_ e.symm;show _=l.take (bJ l r)++h::l.drop (bJ l r)
  by_cases hlt:bJ l r<l.length
  ·rw[if_pos hlt,if_pos hlt];simp
  ·rw[u' hlt,u' hlt,bn' (by omega)];simp
theorem Kn{l:List Hrd}{r:Int}{x:Hrd}{k:Nat}(ho:l.Pairwise λx y=>x.router<y.router)(hx:l[k]?=some x):gOf (l.take (k+1)) r=if x.router=r then x else gOf (l.take k) r:=by
 have o1:∀j,(l.take j).Pairwise λx y=>x.router<y.router:=λj=>ho.sublist (cl' _ _);have hm:x∈l.take (k+1):=by rw[al hx];simp
 split
 ·rename_i e;subst e;exact fi (o1 _) hm
 ·rename_i e
  by_cases hh:∃z∈l.take k,z.router=r
  ·obtain⟨z,hz,rfl⟩:=hh;rw[fi (o1 _) hz,fi (o1 _) (by rw[al hx];simp[hz])]
  ·rw[gp (o1 _) hh,gp (o1 _)];rintro⟨z,hz,e2⟩;rw[al hx]at hz
   rcases L'.mp hz with hz|hz
   ·exact hh ⟨z,hz,e2⟩
   ·rw[O']at hz;subst hz;exact e e2
def JX(l:Lsn)(x:Sig)(t0:Bool):NF:=⟨[rR 2 0,rR 3 1,rR 4 2,rR 5 3,rB 39 t0],[.box (Lsn.v l),.box (Sig.v x),.box (.agg [.int 0,.int 0,.sl 0 [] true]),.box (.agg [.int 0,.int 0,.int 0,.int 0,.int 0,.int 0,.int 0,.int 0,.int 0,.sl 0 [] true])]⟩
def JW(l:Lsn)(x:Sig)(t1:Int×Hrd):NF:=⟨[rR 2 0,rR 3 1,rR 4 2,rR 5 3,rR 9 4,rR 10 5,(51,.k,.sl 4 (l.heard.map Hrd.v) false),rI 52 ((l.heard.map Hrd.v).length:Int),rI 53 t1.1],[.box (Lsn.v l),.box (Sig.v x),.box (.agg [.int 0,.int 0,.sl 0 [] true]),.box (.agg [.int 0,.int 0,.int 0,.int 0,.int 0,.int 0,.int 0,.int 0,.int 0,.sl 0 [] true]),.box (.agg [.int l.router,.int l.epoch,.sl 0 [] true]),.box (Hrd.v t1.2)]⟩
def JV(l:Lsn)(x:Sig)(t1:Int×Hrd)(t2:Bool):NF:=⟨[rR 2 0,rR 3 1,rR 4 2,rR 5 3,rR 9 4,rR 10 5,rB 72 t2],[.box (Lsn.v l),.box (Sig.v x),.box (.agg [.int 0,.int 0,.sl 0 [] true]),.box (.agg [.int 0,.int 0,.int 0,.int 0,.int 0,.int 0,.int 0,.int 0,.int 0,.sl 0 [] true]),.box (.agg [.int l.router,.int l.epoch,.sl 0 [] true]),.box (Hrd.v t1.2)]⟩
def JU(l:Lsn)(x:Sig)(t3:Hrd):NF:=⟨[rR 2 0,rR 3 1,rR 4 2,rR 5 3,rR 9 4,rR 10 5],[.box (Lsn.v l),.box (Sig.v x),.box (.agg [.int 0,.int 0,.sl 0 [] true]),.box (.agg [.int 0,.int 0,.int 0,.int 0,.int 0,.int 0,.int 0,.int 0,.int 0,.sl 0 [] true]),.box (.agg [.int l.router,.int l.epoch,.sl 0 [] true]),.box (Hrd.v t3)]⟩
def JT(l:Lsn)(x:Sig)(t4:Hrd):NF:=⟨[rR 2 0,rR 3 1,rR 4 2,rR 5 3,rR 9 4,rR 10 5],[.box (Lsn.v l),.box (Sig.v x),.box (.agg [.int 0,.int 0,.sl 0 [] true]),.box (.agg [.int 0,.int 0,.int 0,.int 0,.int 0,.int 0,.int 0,.int 0,.int 0,.sl 0 [] true]),.box (.agg [.int l.router,.int l.epoch,.sl 0 [] true]),.box (Hrd.v t4)]⟩
def JS(l:Lsn)(x:Sig)(t3:Hrd)(t5:Bool):NF:=⟨[rR 2 0,rR 3 1,rR 4 2,rR 5 3,rR 9 4,rR 10 5,rB 108 t5],[.box (Lsn.v l),.box (Sig.v x),.box (.agg [.int 0,.int 0,.sl 0 [] true]),.box (.agg [.int 0,.int 0,.int 0,.int 0,.int 0,.int 0,.int 0,.int 0,.int 0,.sl 0 [] true]),.box (.agg [.int l.router,.int l.epoch,.sl 0 [] true]),.box (Hrd.v t3)]⟩
def JR(l:Lsn)(x:Sig)(t4:Hrd)(t6:Bool×Int×List Hrd):NF:=⟨[rR 2 0,rR 3 1,rR 4 2,rR 5 3,rR 9 4,rR 10 6,rB 13 t6.1,(124,.k,.sl 4 (l.heard.map Hrd.v) false),rI 125 ((l.heard.map Hrd.v).length:Int),rI 126 t6.2.1],[.box (Lsn.v l),.box (Sig.v x),.box (.agg [.int 0,.int 0,.sl 0 [] true]),.box (.agg [.int 0,.int 0,.int 0,.int 0,.int 0,.int 0,.int 0,.int 0,.int 0,.sl 0 [] true]),.box (.agg [.int l.router,.int l.epoch,.vec 5]),vB 4 Hrd.v t6.2.2 (λ_=>rfl),.box (Hrd.v t4)]⟩
def JQ(l:Lsn)(x:Sig)(t4:Hrd)(t6:Bool×Int×List Hrd)(x3:Hrd)(t7:Bool×List Hrd):NF:=⟨[rR 2 0,rR 3 1,rR 4 2,rR 5 3,rR 9 4,rR 10 6,rB 13 t7.1,rR 15 7,(124,.k,.sl 4 (l.heard.map Hrd.v) false),rI 125 ((l.heard.map Hrd.v).length:Int),rI 126 t6.2.1],[.box (Lsn.v l),.box (Sig.v x),.box (.agg [.int 0,.int 0,.sl 0 [] true]),.box (.agg [.int 0,.int 0,.int 0,.int 0,.int 0,.int 0,.int 0,.int 0,.int 0,.sl 0 [] true]),.box (.agg [.int l.router,.int l.epoch,.vec 5]),vB 4 Hrd.v t7.2 (λ_=>rfl),.box (Hrd.v t4),.box (Hrd.v x3)]⟩
def JP(l:Lsn)(x:Sig)(t4:Hrd)(t6:Bool×Int×List Hrd)(x3:Hrd)(t8:Bool):NF:=⟨[rR 2 0,rR 3 1,rR 4 2,rR 5 3,rR 9 4,rR 10 6,rB 13 t6.1,rR 15 7,(124,.k,.sl 4 (l.heard.map Hrd.v) false),rI 125 ((l.heard.map Hrd.v).length:Int),rI 126 t6.2.1,rB 138 t8],[.box (Lsn.v l),.box (Sig.v x),.box (.agg [.int 0,.int 0,.sl 0 [] true]),.box (.agg [.int 0,.int 0,.int 0,.int 0,.int 0,.int 0,.int 0,.int 0,.int 0,.sl 0 [] true]),.box (.agg [.int l.router,.int l.epoch,.vec 5]),vB 4 Hrd.v t6.2.2 (λ_=>rfl),.box (Hrd.v t4),.box (Hrd.v x3)]⟩
def JO(l:Lsn)(x:Sig)(t4:Hrd)(t9:List Hrd):NF:=⟨[rR 2 0,rR 3 1,rR 4 2,rR 5 3,rR 9 4,rR 10 6],[.box (Lsn.v l),.box (Sig.v x),.box (.agg [.int 0,.int 0,.sl 0 [] true]),.box (.agg [.int 0,.int 0,.int 0,.int 0,.int 0,.int 0,.int 0,.int 0,.int 0,.sl 0 [] true]),.box (.agg [.int l.router,.int l.epoch,.vec 5]),vB 4 Hrd.v t9 (λ_=>rfl),.box (Hrd.v t4)]⟩
@[reducible] def Dv:Nat→Type
 | 0=>Bool
 | 1=>Int×Hrd
 | 2=>Bool
 | 3=>Hrd
 | 4=>Hrd
 | 5=>Bool
 | 6=>Bool×Int×List Hrd
 | 7=>Bool×List Hrd
 | 8=>Bool
 | 9=>(List Hrd)
 | _=>Unit
def Dw(r:Lsn×Sig×Int):AV:=.tup [Lsn.v r.1,Sig.v r.2.1,.int r.2.2]
def Du(l:Lsn)(x:Sig)(I0:Bool→Prop)(I1:Bool→(Int×Hrd)→Prop)(m1:Bool→(Int×Hrd)→Nat)(I2:Bool→Int×Hrd→Bool→Prop)(I3:Bool→Int×Hrd→Bool→Hrd→Prop)(I4:Bool→Int×Hrd→Bool→Hrd→Hrd→Prop)(I5:Bool→Int×Hrd→Bool→Hrd→Bool→Prop)(I6:Bool→Int×Hrd→Bool→Hrd→Hrd→(Bool×Int×List Hrd)→Prop)(m6:Bool→Int×Hrd→Bool→Hrd→Hrd→(Bool×Int×List Hrd)→Nat)(I7:Bool→Int×Hrd→Bool→Hrd→Hrd→Bool×Int×List Hrd→Hrd→(Bool×List Hrd)→Prop)(I8:Bool→Int×Hrd→Bool→Hrd→Hrd→Bool×Int×List Hrd→Hrd→Bool→Prop)(I9:Bool→Int×Hrd→Bool→Hrd→Hrd→Bool×Int×List Hrd→(List Hrd)→Prop):Ax Tryz.prog Dv (Lsn×Sig×Int):=
 (.callP (sY l)
(.br 160 ((gB l) != 0) (.ret ((⟨0,0,[]⟩:Lsn),(⟨0,0,0,0,0,0,0,0,0,[]⟩:Sig),gB l))
(.callP (tn x)
(.br 240 ((aF x) != 0) (.ret ((⟨0,0,[]⟩:Lsn),(⟨0,0,0,0,0,0,0,0,0,[]⟩:Sig),aF x))
(.pass (.join 0 (JX l x) (λ(t0:Bool)=>I0 t0) (λb0=>(.br 304 (x.kind==3) (.bk 0 b0 ((true):Bool) [0,16,32,48])
(.bk 0 b0 ((x.dst != l.router):Bool) [0,16,32,48]))) λ(t0:Bool) =>
(.br 4 t0 (.ret ((⟨0,0,[]⟩:Lsn),(⟨0,0,0,0,0,0,0,0,0,[]⟩:Sig),1))
(.cmdL (.wkB 164 (.a [.k,.k,.k,.s 4])) (.loop 1 (JW l x) (I1 t0) (m1 t0) (0,(⟨x.src,0,0,[]⟩:Hrd)) [0,1,2,3,84,164] λ(t1:Int×Hrd) b1 =>
(.br 22 (decide (t1.1<((l.heard.map Hrd.v).length:Int))) (.elI 22 Hrd.v l.heard t1.1 λx1 =>
(.br 166 (x1.router==x.src) (.bk 1 b1 (W (t1.1+1),x1) [0,1,2,3,4,5])
(.bk 1 b1 (W (t1.1+1),t1.2) [0,1,2,3,4,5])))
(.pass (.join 2 (JV l x t1) (λ(t2:Bool)=>I2 t0 t1 t2) (λb2=>(.br 86 (t1.2.epoch==0) (.bk 2 b2 ((decide (12≤((l.heard.map Hrd.v).length:Int))):Bool) [0,1,2,3,4,5])
(.bk 2 b2 ((false):Bool) [0,1,2,3,4,5]))) λ(t2:Bool) =>
(.br 6 t2 (.ret ((⟨0,0,[]⟩:Lsn),(⟨0,0,0,0,0,0,0,0,0,[]⟩:Sig),3))
(.join 3 (JU l x) (λ(t3:Hrd)=>I3 t0 t1 t2 t3) (λb3=>(.br 86 (decide (t1.2.epoch<x.epoch)) (.cmdL (.wkB 5 (.a [.k,.k,.k,.s 4])) (.bk 3 b3 (((⟨x.src,x.epoch,0,[]⟩:Hrd)):Hrd) [0,1,2,3,4,5]))
(.bk 3 b3 ((t1.2):Hrd) [0,1,2,3,4,5]))) λ(t3:Hrd) =>
(.join 4 (JT l x) (λ(t4:Hrd)=>I4 t0 t1 t2 t3 t4) (λb4=>(.join 5 (JS l x t3) (λ(t5:Bool)=>I5 t0 t1 t2 t3 t5) (λb5=>(.br 70 (x.kind==2) (.br 182 (x.epoch==t3.epoch) (.br 294 (decide (x.prev≤t3.ver)) (.bk 5 b5 ((decide (t3.ver<x.ver)):Bool) [0,1,2,3,4,5])
(.bk 5 b5 ((false):Bool) [0,1,2,3,4,5]))
(.bk 5 b5 ((false):Bool) [0,1,2,3,4,5]))
(.bk 5 b5 ((false):Bool) [0,1,2,3,4,5]))) λ(t5:Bool) =>
(.br 6 t5 (.req 150 (t3.items.length≤999999) λh2 =>
(.callP (Il t3.items (⟨x.ver,x.grp,x.mode,x.srcs⟩:Itm) h2)
(.bk 4 b4 (((⟨t3.router,t3.epoch,x.ver,gC t3.items (⟨x.ver,x.grp,x.mode,x.srcs⟩:Itm)⟩:Hrd)):Hrd) [0,1,2,3,4,5])))
(.bk 4 b4 ((t3):Hrd) [0,1,2,3,4,5])))) λ(t4:Hrd) =>
(.cmdL (.nilB 4 2 4) (.loop 6 (JR l x t4) (I6 t0 t1 t2 t3 t4) (m6 t0 t1 t2 t3 t4) (false,0,[]) [0,1,2,3,4,86,5] λ(t6:Bool×Int×List Hrd) b6 =>
(.br 23 (decide (t6.2.1<((l.heard.map Hrd.v).length:Int))) (.elI 23 Hrd.v l.heard t6.2.1 λx3 =>
(.join 7 (JQ l x t4 t6 x3) (λ(t7:Bool×List Hrd)=>I7 t0 t1 t2 t3 t4 t6 x3 t7) (λb7=>(.join 8 (JP l x t4 t6 x3) (λ(t8:Bool)=>I8 t0 t1 t2 t3 t4 t6 x3 t8) (λb8=>(.br 135 (!t6.1) (.bk 8 b8 ((decide (x.src≤x3.router)):Bool) [0,1,2,3,4,5,6,55])
(.bk 8 b8 ((false):Bool) [0,1,2,3,4,5,6,55]))) λ(t8:Bool) =>
(.br 8 t8 (.apX 72 Hrd.v t6.2.2 [t4] (t6.2.2.length+1)
(.bk 7 b7 (true,t6.2.2++[t4]) [0,1,2,3,4,72,6,7]))
(.bk 7 b7 (t6.1,t6.2.2) [0,1,2,3,4,5,6,7])))) λ(t7:Bool×List Hrd) =>
(.br 88 (x3.router != x.src) (.apX 152 Hrd.v t7.2 [x3] (t7.2.length+1)
(.bk 6 b6 (t7.1,W (t6.2.1+1),t7.2++[x3]) [0,1,2,3,4,152,6]))
(.bk 6 b6 (t7.1,W (t6.2.1+1),t7.2) [0,1,2,3,4,5,6]))))
(.join 9 (JO l x t4) (λ(t9:List Hrd)=>I9 t0 t1 t2 t3 t4 t6 t9) (λb9=>(.br 55 (!t6.1) (.apX 119 Hrd.v t6.2.2 [t4] (t6.2.2.length+1)
(.bk 9 b9 ((t6.2.2++[t4]):(List Hrd)) [0,1,2,3,4,119,6]))
(.bk 9 b9 ((t6.2.2):(List Hrd)) [0,1,2,3,4,5,6]))) λ(t9:List Hrd) =>
(.fz 5 Hrd.v t9 (λ_=>rfl) (.ret ((⟨l.router,l.epoch,t9⟩:Lsn),(⟨3,l.router,x.src,t4.epoch,t4.ver,0,l.epoch,0,0,[]⟩:Sig),0))))))))))))))))))))))
theorem Pj(l:Lsn)(x:Sig):∃I0 I1 m1 I2 I3 I4 I5 I6 m6 I7 I8 I9,(Du l x I0 I1 m1 I2 I3 I4 I5 I6 m6 I7 I8 I9).vp Dw ((hear l x).1.1,(hear l x).1.2,(hear l x).2):=by
 refine⟨λb=>b=decide (x.kind=3∨x.dst≠l.router),λb t=>∃k:Nat,t.1=k∧k≤l.heard.length∧t.2=gOf (l.heard.take k) x.src,λb t=>l.heard.length-t.1.toNat,
  λb t c=>c=decide (t.2.epoch=0∧12≤l.heard.length),λb t c h=>h=eE t.2 x,λb t c h h'=>h'=dD h x,λb t c h d=>d=decide (x.kind=2∧x.epoch=h.epoch∧x.prev≤h.ver∧h.ver<x.ver),
  λb t c h h' u=>∃k:Nat,u.2.1=k∧k≤l.heard.length∧u.1=decide (bJ l.heard x.src<k)∧u.2.2=bld l.heard x.src h' k,λb t c h h' u=>l.heard.length-u.2.1.toNat,
  λb t c h h' u y w=>w=(decide (bJ l.heard x.src<u.2.1.toNat+1),bld l.heard x.src h' u.2.1.toNat++if bJ l.heard x.src=u.2.1.toNat then [h']else []),λb t c h h' u y d=>d=decide (bJ l.heard x.src=u.2.1.toNat),
  λb t c h h' u w=>w=bld l.heard x.src h' l.heard.length++if bJ l.heard x.src<l.heard.length then []else [h'],?_⟩
 dsimp only[Du,Dv,Ax.vp,Ax.vc];simp only[vcU,rfU,f'];have hv:gB l=if bX l then 0 else 1:=rfl
 rw[hv];unfold hear;by_cases hs:bX l
 case neg=>rw[u' hs,if_pos hs];simp[wn,qS]
 have ho:=hs.2.2.2.2;have hl:=hs.2.2.1;rw[if_pos hs,u' (not_not_intro hs)]
 refine⟨λe=>by simp at e,λ_=>⟨λe=>?_,λe=>⟨⟨λk=>?_,λk=>?_⟩,λb hb=>⟨λc=>?_,λc=>⟨⟨0,rfl,by omega,(gp List.Pairwise.nil (by simp)).symm⟩,?_⟩⟩⟩⟩⟩
 ·rw[if_pos (by simpa using e)];rfl
 ·exact(decide_eq_true (.inl (by simpa using k))).symm
 ·have k:¬x.kind=3:=by simpa using k
  by_cases q:x.dst=l.router<;>simp[q,k]
 ·subst hb;rw[u' (by simpa using e),if_pos (by simpa using c)];rfl
 ·subst hb;have c:¬(x.kind=3∨x.dst≠l.router):=by simpa using c
  rw[u' (by simpa using e),u' c];rintro⟨_,_⟩ ⟨k,rfl,hk,rfl⟩;simp only[Int.toNat_natCast]
  refine⟨λh1=>⟨by omega,by omega,λy hy=>?_⟩,λh1=>?_⟩
  ·rw[am (n:=l.heard.length) (by omega) (by omega)];have:=Kn (r:=x.src) ho hy
   refine⟨λq=>⟨⟨k+1,rfl,by omega,?_⟩,by omega⟩,λq=>⟨⟨k+1,rfl,by omega,?_⟩,by omega⟩⟩
   ·rw[this,if_pos (by simpa using q)]
   ·rw[this,u' (by simpa using q)]
  rw[G' (by omega)];have hg:=gn (r:=x.src) ho;have hep:(gOf l.heard x.src).epoch=0↔¬gD l.heard x.src:=by
   rw[dC ho]
   by_cases hh:∃z∈l.heard,z.router=x.src
   ·obtain⟨z,hz,hzr⟩:=hh;have:gOf l.heard x.src=z:=by rw[←hzr];exact fi ho hz
    rw[this];have:=(hs.2.2.2.1 z hz).2.2.1;exact⟨λq=>by omega,λq=>absurd ⟨z,hz,hzr⟩ q⟩
   ·rw[gp ho hh];simp[hh]
  have hH:xd l.heard x=dD (eE (gOf l.heard x.src) x) x:=rfl
  refine⟨⟨λq=>?_,λq=>?_⟩,λc2 hc2=>⟨λq=>?_,λq=>⟨⟨λq2=>?_,λq2=>?_⟩,?_⟩⟩⟩
  ·have q:(gOf l.heard x.src).epoch=0:=by simpa using q
   simp[q];omega
  ·have q:¬(gOf l.heard x.src).epoch=0:=by simpa using q
   simp[q]
  ·subst hc2;have q:(gOf l.heard x.src).epoch=0∧12≤l.heard.length:=by simpa using q
   rw[if_pos ⟨hep.mp q.1,by omega⟩];rfl
  ·unfold eE;rw[if_pos q2]
  ·unfold eE;rw[u' q2]
  ·subst hc2;have q:¬((gOf l.heard x.src).epoch=0∧12≤l.heard.length):=by simpa using q
   rw[u' λz=>q ⟨hep.mpr z.1,by omega⟩];rintro _ rfl;have hi:(eE (gOf l.heard x.src) x).items.length≤999999:=by
    unfold eE
    split
    ·simp
    ·have:=gk (zX hs x.src).1;omega
   generalize hh0:eE (gOf l.heard x.src) x=h0 at *
   refine⟨⟨⟨λa1=>⟨λa2=>⟨λa3=>?_,λa3=>?_⟩,λa2=>?_⟩,λa1=>?_⟩,λd hd=>⟨λa=>⟨hi,?_⟩,λa=>?_⟩⟩,?_⟩
   ·have a1:x.kind=2:=by simpa using a1
    have a2:x.epoch=h0.epoch:=by simpa using a2
    exact decide_eq_decide.mpr ⟨λz=>⟨a1,a2,a3,z⟩,λz=>z.2.2.2⟩
   ·exact ed λz=>a3 z.2.2.1
   ·exact ed λz=>by simp[z.2.1]at a2
   ·exact ed λz=>by simp[z.1]at a1
   ·subst hd;unfold dD;rw[if_pos (by simpa using a)];rfl
   ·subst hd;unfold dD;rw[u' (by simpa using a)]
   ·rintro _ rfl;have hr:(dD h0 x).router=x.src:=by
     have:=eM (g:=gOf l.heard x.src) (x:=x) hg;unfold aW at this;rw[hh0]at this;exact this
    generalize hh1:dD h0 x=h1' at *
    refine⟨⟨0,rfl,by omega,by simp,by simp[bld]⟩,?_⟩;rintro⟨_,_,_⟩ ⟨j,rfl,hj,rfl,rfl⟩;simp only[Int.toNat_natCast];have hbl:=PT (l:=l.heard) (r:=x.src) (h:=h1') (k:=j)
    refine⟨λb1=>⟨by omega,by omega,λy hy=>⟨⟨⟨λb2=>?_,λb2=>?_⟩,λd hd=>⟨λb3=>⟨by omega,?_⟩,λb3=>?_⟩⟩,?_⟩⟩,λb1=>⟨⟨λb2=>⟨by omega,?_⟩,λb2=>?_⟩,?_⟩⟩
    ·obtain⟨s1,s2⟩:=ye (r:=x.src) (h:=h1') ho hy;have b2:¬bJ l.heard x.src<j:=by simpa using b2
     rw[decide_eq_decide,s1];exact⟨λz=>⟨b2,z⟩,λz=>z.2⟩
    ·have b2:bJ l.heard x.src<j:=by simpa using b2
     exact ed (by omega)
    ·subst hd;have b3:bJ l.heard x.src=j:=by simpa using b3
     rw[if_pos b3,decide_eq_true (show bJ l.heard x.src<j+1 by omega)]
    ·subst hd;have b3:¬bJ l.heard x.src=j:=by simpa using b3
     rw[u' b3,az']
     congr 1
     exact decide_eq_decide.mpr (by omega)
    ·rintro _ rfl;obtain⟨s1,s2⟩:=ye (r:=x.src) (h:=h1') ho hy;rw[am (n:=l.heard.length) (by omega) (by omega)]
     refine⟨λz=>⟨?_,⟨j+1,rfl,by omega,rfl,?_⟩,by omega⟩,λz=>⟨⟨j+1,rfl,by omega,rfl,?_⟩,by omega⟩⟩
     ·have:(if bJ l.heard x.src=j then [h1']else []).length≤1:=by split<;>simp
      rw[Y'];omega
     ·rw[s2,if_pos (c:=y.router≠x.src) (by simpa using z),bo']
     ·rw[s2,u' (c:=y.router≠x.src) (by simpa using z),az']
    ·have b2:¬bJ l.heard x.src<j:=by simpa using b2
     have:j=l.heard.length:=by omega
     subst this;rw[u' b2]
    ·have b2:bJ l.heard x.src<j:=by simpa using b2
     have:j=l.heard.length:=by omega
     subst this;rw[if_pos b2,az']
    ·rintro _ rfl;rw[PU ho hr,hH]
def Pk(l:Lsn)(x:Sig):PC Tryz.prog:=pcO 62 [(.a [.k,.k,(.s 4)]),(.a [.k,.k,.k,.k,.k,.k,.k,.k,.k,(.s 1)])] [Lsn.v l,Sig.v x] (.a [(.a [.k,.k,(.s 4)]),(.a [.k,.k,.k,.k,.k,.k,.k,.k,.k,(.s 1)]),.k]) Dw ((hear l x).1.1,(hear l x).1.2,(hear l x).2) (λ_=>let ⟨I0,I1,m1,I2,I3,I4,I5,I6,m6,I7,I8,I9,h⟩:=Pj l x;⟨_,h,by kernel_rfl⟩) rfl (by kernel_rfl)
def A2(p:Spk)(r:Int):Int:=cmpI p.router r
def KR(r:Int):AV:=.int r
def Az(s:Spk)(r:Int):Ax Tryz.prog noS (Int):=
 (.callP (nE s.router r)
(.ret (cmpI s.router r)))
theorem Ts(p:Spk)(r:Int):(Az p r).vp KR (A2 p r):=by
 dsimp only[Az,noS,Ax.vp,Ax.vc];simp only[vcU,rfU,f'];rfl
def KS(s:Spk)(r:Int):PC Tryz.prog:=pcO 273 [(.a [.k,.k,.k,(.s 4),(.s 3)]),.k] [Spk.v s,.int r] .k KR (A2 s r) (λ_=>⟨(Az s r),Ts s r,by kernel_rfl⟩) rfl (by kernel_rfl)
def kU(l:List Spk)(r:Int):Prop:=bi l r<l.length∧(l.getD (bi l r) eP).router=r
instance (l:List Spk) (r:Int):Decidable (kU l r):=by unfold kU;infer_instance
def Rl(x:List Spk)(target:Int):=okL [.sl 5 (x.map Spk.v) false,.int target,.func 273 []]
def T9(x:List Spk)(target:Int)(t0:Int×Int):NF:=⟨[(0,.k,.sl 5 (x.map Spk.v) false),rI 1 target,(2,.k,.func 273 []),rI 8 ((x.map Spk.v).length:Int),rI 9 t0.1,rI 10 t0.2],[]⟩
@[reducible] def Rj:Nat→Type
 | 0=>Int×Int
 | _=>Unit
def Rk(r:Int×Bool):AV:=.tup [.int r.1,.bool r.2]
def Ri(x:List Spk)(target:Int)(I0:(Int×Int)→Prop)(m0:(Int×Int)→Nat):Ax Tryz.prog Rj (Int×Bool):=
 (.loop 0 (T9 x target) I0 m0 (0,((x.map Spk.v).length:Int)) [] λ(t0:Int×Int) b0 =>
(.br 48 (decide (t0.1<t0.2)) (.elI 208 Spk.v x (W (Int.fdiv (IntKind.u64.wrap (W (t0.1+t0.2))) 2)) λx1 =>
(.callP (KS x1 target)
(.br 288 (decide ((A2 x1 target)<0)) (.bk 0 b0 (W ((W (Int.fdiv (IntKind.u64.wrap (W (t0.1+t0.2))) 2))+1),t0.2) [])
(.bk 0 b0 (t0.1,W (Int.fdiv (IntKind.u64.wrap (W (t0.1+t0.2))) 2)) []))))
(.br 128 (decide (t0.1<((x.map Spk.v).length:Int))) (.elI 176 Spk.v x t0.1 λx2 =>
(.callP (KS x2 target)
(.ret (t0.1,(A2 x2 target)==0))))
(.ret (t0.1,false)))))
theorem bsS_p(l:List Spk)(r:Int)(h:l.Pairwise λx y=>x.router<y.router)(hl:l.length≤1000000)(ok:Rl l r):∃I m,(Ri l r I m).vp Rk ((bi l r:Int),decide (kU l r)):=by
 simp only[Rl,Spk.v,okU,Blk.ok,aP,f']at ok;refine⟨λt=>∃i j:Nat,t=((i:Int),(j:Int))∧i≤j∧j≤l.length∧(∀k x,k<i→l[k]?=some x→x.router<r)∧(∀k x,j≤k→l[k]?=some x→r≤x.router),λt=>(t.2-t.1).toNat,?_⟩;dsimp only[Ri,Rj,Ax.vp,Ax.vc];simp only[vcU,rfU,f'];refine⟨⟨0,l.length,rfl,by omega,by omega,λk x hk=>by omega,λk x hk hx=>by have:=av hx;omega⟩,?_⟩;rintro _ ⟨i,j,rfl,hij,hj,h1,h2⟩
 refine⟨λh3=>?_,λh3=>?_⟩
 ·have h3:i<j:=by simpa using h3
  simp only[half i j hij (by omega),Int.toNat_natCast]
  refine⟨by omega,by omega,λx hx=>⟨λe=>?_,λe=>?_⟩⟩
  ·rw[A2,j8]at e;rw[am (n:=l.length) (by omega) (by omega)];refine⟨⟨_,_,rfl,by omega,hj,λk y hk hy=>?_,h2⟩,by omega⟩
   by_cases e':k=(i+j) / 2
   ·subst e';rw[hx]at hy;cases hy;exact e
   ·have:=ga h (show k<(i+j) / 2 by omega) hy hx;omega
  ·rw[A2,j8]at e;refine⟨⟨_,_,rfl,by omega,by omega,h1,λk y hk hy=>?_⟩,by omega⟩
   by_cases e':k=(i+j) / 2
   ·subst e';rw[hx]at hy;cases hy;omega
   ·have:=ga h (show(i+j) / 2<k by omega) hx hy;omega
 ·have h3:i=j:=by simp at h3;omega
  subst h3;have hp:bi l r=i:=JG (key:=Spk.router) hj h1 h2;simp only[Int.toNat_natCast]
  refine⟨λh4=>⟨by omega,by omega,λx hx=>?_⟩,λh4=>?_⟩
  ·have e:kU l r↔x.router=r:=by rw[kU,hp,getD_some hx];exact⟨λh=>h.2,λh=>⟨av hx,h⟩⟩
   rw[hp];refine congrArg _ ?_;rw[A2,cj',aE',e,bT',nD]
  ·rw[hp,decide_eq_false];rw[kU,hp];intro h;omega
def bsS_c(x:List Spk)(target:Int)(h:x.Pairwise λx y=>x.router<y.router)(hl:x.length≤1000000):PC Tryz.prog:=pcO 272 [(.s 5),.k,.k] [.sl 5 (x.map Spk.v) false,.int target,.func 273 []] .k Rk ((bi x target:Int),decide (kU x target)) (λok=>let ⟨I0,m0,h⟩:=bsS_p x target h hl ok;⟨_,h,by kernel_rfl⟩) rfl (by kernel_rfl)
def D8(r:Int×Bool):AV:=.tup [.int r.1,.bool r.2]
def ul(o:Ovl)(router:Int):Ax Tryz.prog noS (Int×Bool):=
 (.req 96 (o.sp.Pairwise λx y=>x.router<y.router) λh1 =>
(.req 96 (o.sp.length≤1000000) λh2 =>
(.callP (bsS_c o.sp router h1 h2)
(.ret ((bi o.sp router:Int),decide (kU o.sp router))))))
theorem Pu(o:Ovl)(r:Int)(h:o.sp.Pairwise λx y=>x.router<y.router)(hl:o.sp.length≤1000000):(ul o r).vp D8 ((bi o.sp r:Int),decide (kU o.sp r)):=by
 dsimp only[ul,noS,Ax.vp,Ax.vc];simp only[vcU,rfU,f'];exact⟨h,hl,trivial⟩
def um(o:Ovl)(router:Int)(h:o.sp.Pairwise λx y=>x.router<y.router)(hl:o.sp.length≤1000000):PC Tryz.prog:=pcO 147 [(.a [(.s 5),(.s 3),(.s 10)]),.k] [Ovl.v o,.int router] .k D8 ((bi o.sp router:Int),decide (kU o.sp router)) (λ_=>⟨(ul o router),Pu o router h hl,by kernel_rfl⟩) rfl (by kernel_rfl)
def HN(o:Ovl)(t0:Int×List Int):NF:=⟨[rV 3 0,(7,.k,.sl 5 (o.sp.map Spk.v) false),rI 8 ((o.sp.map Spk.v).length:Int),rI 9 t0.1],[vB 1 AV.int t0.2 (λ_=>rfl)]⟩
@[reducible] def C0:Nat→Type
 | 0=>Int×List Int
 | _=>Unit
def C1(r:List Int):AV:=.sl 1 (r.map AV.int) false
def Cz(o:Ovl)(I0:(Int×List Int)→Prop)(m0:(Int×List Int)→Nat):Ax Tryz.prog C0 ((List Int)):=
 (.cmdL (.nilT 3 1) (.loop 0 (HN o) I0 m0 (0,[]) [112] λ(t0:Int×List Int) b0 =>
(.br 17 (decide (t0.1<((o.sp.map Spk.v).length:Int))) (.elI 17 Spk.v o.sp t0.1 λx1 =>
(.apX 145 AV.int t0.2 [x1.router] (t0.2.length+1)
(.bk 0 b0 (W (t0.1+1),t0.2++[x1.router]) [145])))
(.fz 0 AV.int t0.2 (λ_=>rfl) (.ret (t0.2))))))
theorem NN(o:Ovl)(h:o.sp.length≤1000000):∃I m,(Cz o I m).vp C1 (aC o.sp):=by
 refine⟨λt=>∃k:Nat,t.1=k∧k≤o.sp.length∧t.2=aC (o.sp.take k),λt=>o.sp.length-t.1.toNat,?_⟩;dsimp only[Cz,C0,Ax.vp,Ax.vc];simp only[vcU,rfU,f'];refine⟨⟨0,rfl,by omega,rfl⟩,?_⟩;rintro⟨_,_⟩ ⟨k,rfl,hk,rfl⟩;simp only[Int.toNat_natCast]
 refine⟨λh1=>⟨by omega,by omega,λx hx=>⟨by rw[fm];simp;omega,⟨k+1,?_,by omega,?_⟩,?_⟩⟩,λh1=>?_⟩
 ·rw[am (n:=o.sp.length) (by omega) (by omega)]
 ·rw[al hx];simp[aC]
 ·rw[am (n:=o.sp.length) (by omega) (by omega)];omega
 ·rw[G' (by omega)]
def NO(o:Ovl)(h:o.sp.length≤1000000):PC Tryz.prog:=pcO 266 [(.a [(.s 5),(.s 3),(.s 10)])] [Ovl.v o] (.s 1) C1 (aC o.sp) (λ_=>let ⟨I0,m0,h⟩:=NN o h;⟨_,h,by kernel_rfl⟩) rfl (by kernel_rfl)
def zu(l:List Int)(n:Int)(t0:Int×List Int):NF:=⟨[rI 1 n,rV 5 0,(8,.k,.sl 1 (l.map AV.int) false),rI 9 ((l.map AV.int).length:Int),rI 10 t0.1],[vB 1 AV.int t0.2 (λ_=>rfl)]⟩
@[reducible] def rL:Nat→Type
 | 0=>Int×List Int
 | _=>Unit
def rM(r:List Int):AV:=.sl 1 (r.map AV.int) false
def rK(l:List Int)(n:Int)(I0:(Int×List Int)→Prop)(m0:(Int×List Int)→Nat):Ax Tryz.prog rL ((List Int)):=
 (.cmdL (.nilT 5 1) (.loop 0 (zu l n) I0 m0 (0,[]) [80] λ(t0:Int×List Int) b0 =>
(.br 17 (decide (t0.1<((l.map AV.int).length:Int))) (.elI 17 AV.int l t0.1 λx1 =>
(.br 113 (x1 != n) (.apX 161 AV.int t0.2 [x1] (t0.2.length+1)
(.bk 0 b0 (W (t0.1+1),t0.2++[x1]) [161]))
(.bk 0 b0 (W (t0.1+1),t0.2) [0])))
(.fz 0 AV.int t0.2 (λ_=>rfl) (.ret (t0.2))))))
theorem EF(l:List Int)(n:Int)(h:l.length≤1000000):∃I m,(rK l n I m).vp rM (dj l n):=by
 refine⟨λt=>∃k:Nat,t.1=k∧k≤l.length∧t.2=dj (l.take k) n∧t.2.length≤k,λt=>l.length-t.1.toNat,?_⟩;dsimp only[rK,rL,Ax.vp,Ax.vc];simp only[vcU,rfU,f'];refine⟨⟨0,rfl,by omega,rfl,by simp⟩,?_⟩;rintro⟨_,_⟩ ⟨k,rfl,hk,rfl,hk2⟩;simp only[Int.toNat_natCast]at *
 refine⟨λh1=>⟨by omega,by omega,λx hx=>?_⟩,λh1=>?_⟩
 ·rw[am (n:=l.length) (by omega) (by omega)]
  refine⟨λq=>⟨by omega,⟨k+1,rfl,by omega,?_,by simp;omega⟩,by omega⟩,λq=>⟨⟨k+1,rfl,by omega,?_,by omega⟩,by omega⟩⟩
  ·have q:x≠n:=by simpa using q
   rw[al hx,dj,dj,aQ'];simp[q]
  ·have q:x=n:=by simpa using q
   rw[al hx,dj,dj,aQ'];simp[q]
 ·rw[G' (by omega)]
def EG(l:List Int)(n:Int)(h:l.length≤1000000):PC Tryz.prog:=pcO 268 [(.s 1),.k] [.sl 1 (l.map AV.int) false,.int n] (.s 1) rM (dj l n) (λ_=>let ⟨I0,m0,h⟩:=EF l n h;⟨_,h,by kernel_rfl⟩) rfl (by kernel_rfl)
def Se(p:Per)(r:Int):Bool:=decide (p.router=r)
def vM(r:Bool):AV:=.bool r
def pr(p:Per)(r:Int):Ax Tryz.prog noS (Bool):=
 (.ret (p.router==r))
theorem Is(p:Per)(r:Int):(pr p r).vp vM (Se p r):=by
 dsimp only[pr,noS,Ax.vp,Ax.vc];simp only[vcU,rfU,f'];rfl
def It(p:Per)(r:Int):PC Tryz.prog:=pcO 269 [.k,.k] [Per.v p,.int r] .k vM (decide (p.router=r)) (λ_=>⟨(pr p r),Is p r,by kernel_rfl⟩) rfl (by kernel_rfl)
def KA(s1:List Per)(s2:List Int):=okL [.sl 3 (s1.map Per.v) false,.sl 1 (s2.map AV.int) false,.func 269 []]
def Pz(s1:List Per)(s2:List Int)(t0:Int):NF:=⟨[(1,.k,.sl 1 (s2.map AV.int) false),(2,.k,.func 269 []),(15,.k,.sl 3 (s1.map Per.v) false),rI 16 ((s1.map Per.v).length:Int),rI 17 t0],[]⟩
@[reducible] def K8:Nat→Type
 | 0=>Int
 | _=>Unit
def K9(r:Bool):AV:=.bool r
def K7(s1:List Per)(s2:List Int)(I0:Int→Prop)(m0:Int→Nat):Ax Tryz.prog K8 (Bool):=
 (.br 96 (((s1.map Per.v).length:Int) != ((s2.map AV.int).length:Int)) (.ret (false))
(.loop 0 (Pz s1 s2) I0 m0 ((0):Int) [] λ(t0:Int) b0 =>
(.br 16 (decide (t0<((s1.map Per.v).length:Int))) (.elI 32 Per.v s1 t0 λx1 =>
(.elI 144 AV.int s2 t0 λx2 =>
(.callP (It x1 x2)
(.br 272 (!(decide (x1.router=x2))) (.ret (false))
(.bk 0 b0 ((W (t0+1)):Int) [])))))
(.ret (true)))))
theorem Tk(a:List Per)(b:List Int)(ok:KA a b):∃I m,(K7 a b I m).vp K9 (decide (a.map Per.router=b)):=by
 simp only[KA,Per.v,okU,Blk.ok,aP,f']at ok;refine⟨λt=>∃k:Nat,t=k∧k≤a.length∧(a.take k).map Per.router=b.take k,λt=>a.length-t.toNat,?_⟩;dsimp only[K7,K8,Ax.vp,Ax.vc];simp only[vcU,rfU,f'];refine⟨λe=>(decide_eq_false λh=>by subst h;simp at e).symm,λe=>⟨⟨0,rfl,by omega,rfl⟩,?_⟩⟩;have e:a.length=b.length:=by simp at e;omega
 rintro _ ⟨k,rfl,hk,h⟩;simp only[Int.toNat_natCast]
 refine⟨λh1=>⟨by omega,by omega,λx hx=>⟨by omega,by omega,λy hy=>⟨λe2=>?_,λe2=>?_⟩⟩⟩,λh1=>?_⟩
 ·refine(decide_eq_false λhh=>?_).symm;subst hh;rw[S',hx]at hy;simp only[ag',aL']at hy;subst hy;simp at e2
 ·have e2:x.router=y:=by simpa using e2
  rw[am (n:=a.length) (by omega) (by omega)];exact⟨⟨k+1,rfl,by omega,by rw[al hx,al hy,List.map_append,h];simp[e2]⟩,by omega⟩
 ·rw[G' (by omega),G' (by omega)]at h;exact(decide_eq_true h).symm
def Tl(s1:List Per)(s2:List Int):PC Tryz.prog:=pcO 267 [(.s 3),(.s 1),.k] [.sl 3 (s1.map Per.v) false,.sl 1 (s2.map AV.int) false,.func 269 []] .k K9 (decide (s1.map Per.router=s2)) (λok=>let ⟨I0,m0,h⟩:=Tk s1 s2 ok;⟨_,h,by kernel_rfl⟩) rfl (by kernel_rfl)
def iN(l:List Int)(v:Int):Int:=match l.findIdx? λx=>decide (v=x)with
 | some i=>i
 | none=>-1
theorem wO{l:List Int}{r:Int}{i:Nat}(hx:l[i]?=some r)(hb:∀y∈l.take i,r≠y):iN l r=i:=by
 obtain⟨hi,hxi⟩:=I'.mp hx;have:l.findIdx? (λp=>decide (r=p))=some i:=by
  rw[bH'];refine⟨hi,by rw[hxi];simp,λj hj=>?_⟩;have:=hb l[j] (ak' (i:=j) (by rw[am',if_pos hj,E' (by omega)]));simpa using this
 unfold iN;rw[this]
theorem wQ{l:List Int}{r:Int}(hb:∀y∈l,r≠y):iN l r=-1:=by
 have:l.findIdx? (λp=>decide (r=p))=none:=by
  rw[cb'];intro x hx;simpa using hb x hx
 unfold iN;rw[this]
def wS(s:List Int)(v:Int):=okL [.sl 1 (s.map AV.int) false,.int v]
def Fa(s:List Int)(v:Int)(t0:Int):NF:=⟨[(0,.k,.sl 1 (s.map AV.int) false),rI 1 v,rI 7 ((s.map AV.int).length:Int),rI 8 t0],[]⟩
@[reducible] def wP:Nat→Type
 | 0=>Int
 | _=>Unit
def wR(r:Int):AV:=.int r
def wN(s:List Int)(v:Int)(I0:Int→Prop)(m0:Int→Nat):Ax Tryz.prog wP (Int):=
 (.loop 0 (Fa s v) I0 m0 ((0):Int) [] λ(t0:Int) b0 =>
(.br 16 (decide (t0<((s.map AV.int).length:Int))) (.elI 96 AV.int s t0 λx1 =>
(.br 144 (v==x1) (.ret (t0))
(.bk 0 b0 ((W (t0+1)):Int) [])))
(.ret (-1))))
theorem JC(l:List Int)(v:Int)(ok:wS l v):∃I m,(wN l v I m).vp wR (iN l v):=by
 simp only[wS,okU,Blk.ok,aP,f']at ok;refine⟨λt=>∃k:Nat,t=k∧k≤l.length∧∀x∈l.take k,v≠x,λt=>l.length-t.toNat,?_⟩;dsimp only[wN,wP,Ax.vp,Ax.vc];simp only[vcU,rfU,f'];have hle:l.length≤9223372036854775807:=ok.1.1;refine⟨⟨0,rfl,by omega,by simp⟩,?_⟩;rintro _ ⟨k,rfl,hk,hI⟩;simp only[Int.toNat_natCast]
 refine⟨λh1=>⟨by omega,by omega,λx hx=>⟨λe=>?_,λe=>?_⟩⟩,λh1=>?_⟩
 ·have e:v=x:=by simpa using e
  subst e;rw[wO hx hI]
 ·rw[am (n:=l.length) (by omega) (by omega)];exact⟨⟨k+1,rfl,by omega,(bG hx).mpr ⟨hI,by simpa using e⟩⟩,by omega⟩
 ·rw[G' (by omega)]at hI;rw[wQ hI]
def JD(s:List Int)(v:Int):PC Tryz.prog:=pcO 294 [(.s 1),.k] [.sl 1 (s.map AV.int) false,.int v] .k wR (iN s v) (λok=>let ⟨I0,m0,h⟩:=JC s v ok;⟨_,h,by kernel_rfl⟩) rfl (by kernel_rfl)
theorem EZ{l:List Int}{v:Int}:0≤iN l v↔v∈l:=by
 unfold iN;cases e:l.findIdx? (λp=>decide (v=p))with
 | none =>
  rw[cb']at e;simp only;refine⟨λh=>by omega,λh=>by have:=e v h;simp at this⟩
 | some i =>
  rw[bH']at e;obtain⟨h1,h2,_⟩:=e;simp only;refine⟨λ_=>?_,λ_=>by omega⟩;have:v=l[i]:=by simpa using h2
  rw[this];exact ay' h1
def DK(r:Bool):AV:=.bool r
def uu(s:List Int)(v:Int):Ax Tryz.prog noS (Bool):=
 (.callP (JD s v)
(.ret (decide (0≤(iN s v)))))
theorem P5(l:List Int)(v:Int):(uu l v).vp DK (decide (v∈l)):=by
 dsimp only[uu,noS,Ax.vp,Ax.vc];simp only[vcU,rfU,f'];exact decide_eq_decide.mpr EZ
def oJ(s:List Int)(v:Int):PC Tryz.prog:=pcO 199 [(.s 1),.k] [.sl 1 (s.map AV.int) false,.int v] .k DK (decide (v∈s)) (λ_=>⟨(uu s v),P5 s v,by kernel_rfl⟩) rfl (by kernel_rfl)
def jg(f:Flt)(s:Int):Bool:=decide (s∈f.srcs)==decide (f.mode=1)
def Ko(r:Bool):AV:=.bool r
def zY(f:Flt)(source:Int):Ax Tryz.prog noS (Bool):=
 (.callP (oJ f.srcs source)
(.ret ((decide (source∈f.srcs))==(f.mode==1))))
theorem Ta(f:Flt)(s:Int):(zY f s).vp Ko (jg f s):=by
 dsimp only[zY,noS,Ax.vp,Ax.vc];simp only[vcU,rfU,f'];rfl
def Kp(f:Flt)(source:Int):PC Tryz.prog:=pcO 322 [(.a [.k,(.s 1)]),.k] [Flt.v f,.int source] .k Ko (jg f source) (λ_=>⟨(zY f source),Ta f source,by kernel_rfl⟩) rfl (by kernel_rfl)
structure MKy where
  grp:Int
  host:Int
def MKy.v(x:MKy):AV:=.agg [.int x.grp,.int x.host]
def QJ(vals:List Int):=okL [.sl 1 (vals.map AV.int) false]
def Sk(vals:List Int)(t0:Int):NF:=⟨[rI 3 0,(6,.k,.sl 1 (vals.map AV.int) false),rI 7 ((vals.map AV.int).length:Int),rI 8 t0],[]⟩
@[reducible] def QH:Nat→Type
 | 0=>Int
 | _=>Unit
def QI(r:Int):AV:=.int r
def QG(vals:List Int)(I0:Int→Prop)(m0:Int→Nat):Ax Tryz.prog QH (Int):=
 (.loop 0 (Sk vals) I0 m0 ((0):Int) [] λ(t0:Int) b0 =>
(.br 16 (decide (t0<((vals.map AV.int).length:Int))) (.elI 16 AV.int vals t0 λx1 =>
(.br 112 (x1 != 0) (.ret (x1))
(.bk 0 b0 ((W (t0+1)):Int) [])))
(.ret (0))))
theorem orN_p(vals:List Int)(ok:QJ vals):∃I m,(QG vals I m).vp QI (orI vals):=by
 simp only[QJ,okU,Blk.ok,aP,f']at ok;refine⟨λt=>∃k:Nat,t=k∧k≤vals.length∧(vals.take k).all (·==0),λt=>vals.length-t.toNat,?_⟩
 dsimp only[QG,QH,Ax.vp,Ax.vc];simp only[vcU,rfU,f'];refine⟨⟨0,rfl,by omega,by simp⟩,?_⟩;rintro _ ⟨k,rfl,hk,h⟩
 refine⟨λh1=>⟨by omega,by omega,λx hx=>⟨λhn=>?_,λhn=>?_⟩⟩,λh1=>?_⟩
 ·rw[Int.toNat_natCast]at hx;rw[orI,nu h hx (by simpa using hn)];rfl
 ·rw[Int.toNat_natCast]at hx;have hlt:=av hx;rw[am (n:=vals.length) (by omega) (by omega)];refine⟨⟨k+1,rfl,by omega,?_⟩,by omega⟩;rw[al hx,List.all_append,h];simpa using hn
 ·rw[G' (by omega)]at h
  rw[orI,aM'.mpr]
  ·rfl
  ·intro x hx;simpa using aZ'.mp h x hx
def orN_c(vals:List Int):PC Tryz.prog:=pcO 284 [(.s 1)] [.sl 1 (vals.map AV.int) false] .k QI (orI vals) (λok=>let ⟨I0,m0,h⟩:=orN_p vals ok;⟨_,h,by kernel_rfl⟩) rfl (by kernel_rfl)
def Gl(r:Bool):AV:=.bool r
def yE(n:Int)(lo:Int)(hi:Int):Ax Tryz.prog noS (Bool):=
 (.br 80 (decide (lo≤n)) (.ret (decide (n≤hi)))
(.ret (false)))
theorem R6(n lo hi:Int):(yE n lo hi).vp Gl (decide (lo≤n∧n≤hi)):=by
 dsimp only[yE,noS,Ax.vp,Ax.vc];simp only[vcU,rfU,f'];refine⟨λc=>?_,λc=>?_⟩<;>simp[c]
def sU(n:Int)(lo:Int)(hi:Int):PC Tryz.prog:=pcO 240 [.k,.k,.k] [.int n,.int lo,.int hi] .k Gl (decide (lo≤n∧n≤hi)) (λ_=>⟨(yE n lo hi),R6 n lo hi,by kernel_rfl⟩) rfl (by kernel_rfl)
def IB(r:Bool):AV:=.bool r
def z7(f:Flt):Ax Tryz.prog noS (Bool):=
 (.br 96 (f.mode==1) (.ret (((f.srcs.map AV.int).length:Int)==0))
(.ret (false)))
theorem Sv(f:Flt):(z7 f).vp IB (decide (f.mode=1∧f.srcs=[])):=by
 dsimp only[z7,noS,Ax.vp,Ax.vc];simp only[vcU,rfU,f'];have h:((f.srcs.length:Int)==0)=decide (f.srcs=[]):=by rw[cj',bT',aE',←bP'];omega
 refine⟨λc=>?_,λc=>?_⟩<;>simp_all
def Sw(f:Flt):PC Tryz.prog:=pcO 242 [(.a [.k,(.s 1)])] [Flt.v f] .k IB (decide (f.mode=1∧f.srcs=[])) (λ_=>⟨(z7 f),Sv f,by kernel_rfl⟩) rfl (by kernel_rfl)
def KT(r:Int):AV:=.int r
def A3(m:Mem)(k:MKy):Ax Tryz.prog noS (Int):=
 (.callP (nE m.grp k.grp)
(.callP (nE m.host k.host)
(.callP (orN_c [cmpI m.grp k.grp,cmpI m.host k.host])
(.ret (orI [cmpI m.grp k.grp,cmpI m.host k.host])))))
theorem Tt(m:Mem)(k:MKy):(A3 m k).vp KT (orI [cmpI m.grp k.grp,cmpI m.host k.host]):=by
 dsimp only[A3,noS,Ax.vp,Ax.vc];simp only[vcU,rfU,f']
def Tu(m:Mem)(k:MKy):PC Tryz.prog:=pcO 243 [(.a [.k,.k,.k,(.s 1),.k]),.k] [Mem.v m,MKy.v k] .k KT (orI [cmpI m.grp k.grp,cmpI m.host k.host]) (λ_=>⟨(A3 m k),Tt m k,by kernel_rfl⟩) rfl (by kernel_rfl)
def OO(m:aK)(t0:Int):NF:=⟨[rR 1 0,(21,.k,.sl 5 (m.list.map Mem.v) false),rI 22 ((m.list.map Mem.v).length:Int),rI 23 t0],[.box (aK.v m)]⟩
def ON(m:aK)(t0:Int)(t1:Bool):NF:=⟨[rR 1 0,(21,.k,.sl 5 (m.list.map Mem.v) false),rI 22 ((m.list.map Mem.v).length:Int),rI 23 t0,rB 47 t1],[.box (aK.v m)]⟩
def OM(m:aK)(t2:Int):NF:=⟨[rR 1 0,(50,.k,.sl 5 (m.list.map Mem.v) false),rI 51 ((m.list.map Mem.v).length:Int),rI 52 t2],[.box (aK.v m)]⟩
def OL(m:aK)(t3:Int):NF:=⟨[rR 1 0,(64,.k,.sl 5 (m.list.map Mem.v) false),rI 65 ((m.list.map Mem.v).length:Int),rI 66 t3],[.box (aK.v m)]⟩
def OK(m:aK)(t4:Int):NF:=⟨[rR 1 0,rI 10 t4],[.box (aK.v m)]⟩
@[reducible] def Jm:Nat→Type
 | 0=>Int
 | 1=>Bool
 | 2=>Int
 | 3=>Int
 | 4=>Int
 | _=>Unit
def Jn(r:Int):AV:=.int r
def Jl(m:aK)(I0:Int→Prop)(m0:Int→Nat)(I1:Int→Mem→Bool→Prop)(I2:Int→Int→Prop)(m2:Int→Int→Nat)(I3:Int→Int→Int→Prop)(m3:Int→Int→Int→Nat)(I4:Int→Int→Int→Int→Prop)(m4:Int→Int→Int→Int→Nat):Ax Tryz.prog Jm (Int):=
 (.callP (sU m.now 0 1000000)
(.br 96 (!(decide (0≤m.now∧m.now≤1000000))) (.ret (2))
(.br 160 (decide (64<((m.list.map Mem.v).length:Int))) (.ret (3))
(.loop 0 (OO m) I0 m0 ((0):Int) [0] λ(t0:Int) b0 =>
(.br 17 (decide (t0<((m.list.map Mem.v).length:Int))) (.elI 17 Mem.v m.list t0 λx1 =>
(.join 1 (ON m t0) (λ(t1:Bool)=>I1 t0 x1 t1) (λb1=>(.callP (sU x1.host 1 99)
(.br 161 (!(decide (1≤x1.host∧x1.host≤99))) (.bk 1 b1 ((true):Bool) [0])
(.callP (sU x1.grp 1 99)
(.br 257 (!(decide (1≤x1.grp∧x1.grp≤99))) (.bk 1 b1 ((true):Bool) [0])
(.callP (sU x1.til m.now (W (m.now+1000)))
(.bk 1 b1 ((!(decide (m.now≤x1.til∧x1.til≤(W (m.now+1000))))):Bool) [0]))))))) λ(t1:Bool) =>
(.br 1 t1 (.ret (2))
(.bk 0 b0 ((W (t0+1)):Int) [0]))))
(.loop 2 (OM m) (I2 t0) (m2 t0) ((0):Int) [0] λ(t2:Int) b2 =>
(.br 17 (decide (t2<((m.list.map Mem.v).length:Int))) (.elI 17 Mem.v m.list t2 λx2 =>
(.callP (nL (⟨x2.mode,x2.srcs⟩:Flt))
(.br 177 ((ao (⟨x2.mode,x2.srcs⟩:Flt).mode (⟨x2.mode,x2.srcs⟩:Flt).srcs) != 0) (.ret (ao (⟨x2.mode,x2.srcs⟩:Flt).mode (⟨x2.mode,x2.srcs⟩:Flt).srcs))
(.bk 2 b2 ((W (t2+1)):Int) [0]))))
(.loop 3 (OL m) (I3 t0 t2) (m3 t0 t2) ((0):Int) [0] λ(t3:Int) b3 =>
(.br 17 (decide (t3<((m.list.map Mem.v).length:Int))) (.elI 17 Mem.v m.list t3 λx3 =>
(.callP (Sw (⟨x3.mode,x3.srcs⟩:Flt))
(.br 129 (decide ((⟨x3.mode,x3.srcs⟩:Flt).mode=1∧(⟨x3.mode,x3.srcs⟩:Flt).srcs=[])) (.ret (1))
(.bk 3 b3 ((W (t3+1)):Int) [0]))))
(.loop 4 (OK m) (I4 t0 t2 t3) (m4 t0 t2 t3) ((1):Int) [0] λ(t4:Int) b4 =>
(.br 81 (decide (t4<((m.list.map Mem.v).length:Int))) (.elI 129 Mem.v m.list t4 λx4 =>
(.elI 257 Mem.v m.list (W (t4-1)) λx5 =>
(.callP (Tu x5 (⟨x4.grp,x4.host⟩:MKy))
(.br 401 (decide (0≤(orI [cmpI x5.grp (⟨x4.grp,x4.host⟩:MKy).grp,cmpI x5.host (⟨x4.grp,x4.host⟩:MKy).host]))) (.ret (25))
(.bk 4 b4 ((W (t4+1)):Int) [0])))))
(.ret (0)))))))))))))
theorem xL(a b c d:Int):0≤orI [cmpI a b,cmpI c d]↔¬(a<b∨a=b∧c<d):=by
 rw[oC];unfold cmpI
 (repeat' split)<;>simp_all<;>omega
theorem jW{x y:Mem}:ct x y↔x.grp<y.grp∨x.grp=y.grp∧x.host<y.host:=by
 simp[ct,lu]
theorem S8(m:aK):∃I0 m0 I1 I2 m2 I3 m3 I4 m4,(Jl m I0 m0 I1 I2 m2 I3 m3 I4 m4).vp Jn (aZ m):=by
 refine⟨gG m.list (dR m.now),λt=>m.list.length-t.toNat,λ_ x b=>b=decide (¬dR m.now x),λ_=>gG m.list (λx=>ao x.mode x.srcs=0),λ_ t=>m.list.length-t.toNat,
  λ_ _=>gG m.list (λx=>¬(x.mode=1∧x.srcs=[])),λ_ _ t=>m.list.length-t.toNat,λ_ _ _=>lA m.list ct,λ_ _ _ t=>m.list.length+1-t.toNat,?_⟩
 dsimp only[Jl,Jm,Ax.vp,Ax.vc];simp only[vcU,rfU,f']
 refine⟨λc=>?_,λc=>⟨λd=>?_,λd=>⟨gG.zero,?_⟩⟩⟩
 ·rw[aZ,if_pos (show ¬(0≤m.now∧m.now≤1000000)from λh=>by simp[h]at c)]
 ·rw[aZ,u' (by simpa using c),if_pos (by omega)]
 have c:0≤m.now∧m.now≤1000000:=by simpa using c
 have d:¬64<m.list.length:=by omega
 intro t1 h1
 refine⟨λe=>⟨h1.idx,e,λx hx=>⟨?_,?_⟩⟩,λe=>⟨gG.zero,?_⟩⟩
 ·have w:W (m.now+1000)=m.now+1000:=ci (by omega);rw[w];refine⟨λq=>?_,λq=>⟨λq2=>?_,λq2=>?_⟩⟩<;>simp[dR]at *<;>grind
 ·rintro _ rfl;refine⟨λq=>?_,λq=>h1.step (by omega) hx (X'.mp (ab' q))⟩;rw[aZ,u' (not_not_intro c),u' d,if_pos (λh=>H' q (h x (uD hx)))]
 have g1:=h1.done e;intro t2 h2
 refine⟨λe2=>⟨h2.idx,e2,λx hx=>⟨λq=>?_,λq=>h2.step (by omega) hx (by simpa using q)⟩⟩,λe2=>⟨gG.zero,?_⟩⟩
 ·have hq:ao x.mode x.srcs≠0:=by simpa using q
  have:=rN (f:=λx:Mem=>ao x.mode x.srcs) h2 hx hq;rw[aZ,u' (not_not_intro c),u' d,u' (not_not_intro g1),this,if_pos hq]
 have g2:orI (m.list.map λx=>ao x.mode x.srcs)=0:=pz (h2.done e2);intro t3 h3
 refine⟨λe3=>⟨h3.idx,e3,λx hx=>⟨λq=>?_,λq=>h3.step (by omega) hx q⟩⟩,λe3=>⟨lA.one,?_⟩⟩
 ·rw[aZ,u' (not_not_intro c),u' d,u' (not_not_intro g1),u' (not_not_intro g2),if_pos ⟨x,uD hx,q⟩]
 have g3:¬∃x∈m.list,x.mode=1∧x.srcs=[]:=λ⟨x,hx,q⟩=>h3.done e3 x hx q;intro t4 h4
 refine⟨λe4=>⟨(h4.idx (by omega) e4).2,e4,λy hy=>⟨(h4.idx (by omega) e4).1.1,(h4.idx (by omega) e4).1.2,λx hx=>⟨λq=>?_,λq=>h4.step (by omega) hx hy ?_⟩⟩⟩,λe4=>?_⟩
 ·have q:=λr:ct x y=>(xL _ _ _ _).mp q (jW.mp r);rw[aZ,u' (not_not_intro c),u' d,u' (not_not_intro g1),u' (not_not_intro g2),u' g3,if_pos (h4.bad (S:=ct) (by omega) hx hy q)]
 ·exact jW.mpr (X'.mp λr=>q ((xL _ _ _ _).mpr r))
 ·rw[aZ,u' (not_not_intro c),u' d,u' (not_not_intro g1),u' (not_not_intro g2),u' g3,u' (not_not_intro (h4.done e4 pB))]
def zC(m:aK):PC Tryz.prog:=pcO 138 [(.a [.k,(.s 5)])] [aK.v m] .k Jn (aZ m) (λ_=>let ⟨I0,m0,I1,I2,m2,I3,m3,I4,m4,h⟩:=S8 m;⟨_,h,by kernel_rfl⟩) rfl (by kernel_rfl)
def Hm(r:Bool):AV:=.bool r
def yX(x:Wnt)(y:Wnt):Ax Tryz.prog noS (Bool):=
 (.br 144 (x.grp==y.grp) (.callP (uO (⟨x.mode,x.srcs⟩:Flt) (⟨y.mode,y.srcs⟩:Flt))
(.ret (oq (⟨x.mode,x.srcs⟩:Flt) (⟨y.mode,y.srcs⟩:Flt))))
(.ret (false)))
theorem RM(x y:Wnt):(yX x y).vp Hm (decide (x=y)):=by
 dsimp only[yX,noS,Ax.vp,Ax.vc];simp only[vcU,rfU,f']
 refine⟨λe=>?_,λe=>(decide_eq_false λh=>?_).symm⟩
 ·have e:x.grp=y.grp:=by simpa using e
  show decide ((⟨x.mode,x.srcs⟩:Flt)=⟨y.mode,y.srcs⟩)=_;exact decide_eq_decide.mpr (by rw[eA,Wnt.eq_iff];exact⟨λh=>⟨e,h⟩,λh=>h.2⟩)
 ·subst h;simp at e
def RN(x:Wnt)(y:Wnt):PC Tryz.prog:=pcO 150 [(.a [.k,.k,(.s 1)]),(.a [.k,.k,(.s 1)])] [Wnt.v x,Wnt.v y] .k Hm (decide (x=y)) (λ_=>⟨(yX x y),RM x y,by kernel_rfl⟩) rfl (by kernel_rfl)
def Rh(s1:List Wnt)(s2:List Wnt):=okL [.sl 3 (s1.map Wnt.v) false,.sl 3 (s2.map Wnt.v) false,.func 150 []]
def Tj(s1:List Wnt)(s2:List Wnt)(t0:Int):NF:=⟨[(1,.k,.sl 3 (s2.map Wnt.v) false),(2,.k,.func 150 []),(15,.k,.sl 3 (s1.map Wnt.v) false),rI 16 ((s1.map Wnt.v).length:Int),rI 17 t0],[]⟩
@[reducible] def Re:Nat→Type
 | 0=>Int
 | _=>Unit
def Rg(r:Bool):AV:=.bool r
def Rc(s1:List Wnt)(s2:List Wnt)(I0:Int→Prop)(m0:Int→Nat):Ax Tryz.prog Re (Bool):=
 (.br 96 (((s1.map Wnt.v).length:Int) != ((s2.map Wnt.v).length:Int)) (.ret (false))
(.loop 0 (Tj s1 s2) I0 m0 ((0):Int) [] λ(t0:Int) b0 =>
(.br 16 (decide (t0<((s1.map Wnt.v).length:Int))) (.elI 32 Wnt.v s1 t0 λx1 =>
(.elI 144 Wnt.v s2 t0 λx2 =>
(.callP (RN x1 x2)
(.br 288 (!(decide (x1=x2))) (.ret (false))
(.bk 0 b0 ((W (t0+1)):Int) [])))))
(.ret (true)))))
theorem eqW_p(a b:List Wnt)(ok:Rh a b):∃I m,(Rc a b I m).vp Rg (decide (a=b)):=by
 simp only[Rh,Wnt.v,okU,Blk.ok,aP,f']at ok;refine⟨λt=>∃k:Nat,t=k∧k≤a.length∧a.take k=b.take k,λt=>a.length-t.toNat,?_⟩;dsimp only[Rc,Re,Ax.vp,Ax.vc];simp only[vcU,rfU,f'];refine⟨λe=>(decide_eq_false λh=>by subst h;simp at e).symm,λe=>⟨⟨0,rfl,by omega,rfl⟩,?_⟩⟩;have e:a.length=b.length:=by simp at e;omega
 rintro _ ⟨k,rfl,hk,h⟩;simp only[Int.toNat_natCast]
 refine⟨λh1=>⟨by omega,by omega,λx hx=>⟨by omega,by omega,λy hy=>⟨λe2=>?_,λe2=>?_⟩⟩⟩,λh1=>?_⟩
 ·refine(decide_eq_false λhh=>?_).symm;subst hh;cases hx.symm.trans hy;simp at e2
 ·have e2:x=y:=by simpa using e2
  subst e2;rw[am (n:=a.length) (by omega) (by omega)];exact⟨⟨k+1,rfl,by omega,by rw[al hx,al hy,h]⟩,by omega⟩
 ·rw[G' (by omega),G' (by omega)]at h;exact(decide_eq_true h).symm
def eqW_c(s1:List Wnt)(s2:List Wnt):PC Tryz.prog:=pcO 149 [(.s 3),(.s 3),.k] [.sl 3 (s1.map Wnt.v) false,.sl 3 (s2.map Wnt.v) false,.func 150 []] .k Rg (decide (s1=s2)) (λok=>let ⟨I0,m0,h⟩:=eqW_p s1 s2 ok;⟨_,h,by kernel_rfl⟩) rfl (by kernel_rfl)
def Hl(r:Bool):AV:=.bool r
def yW(a:List Wnt)(b:List Wnt):Ax Tryz.prog noS (Bool):=
 (.callP (eqW_c a b)
(.ret (decide (a=b))))
theorem RK(a b:List Wnt):(yW a b).vp Hl (decide (a=b)):=by
 dsimp only[yW,noS,Ax.vp,Ax.vc];simp only[vcU,rfU,f']
def RL(a:List Wnt)(b:List Wnt):PC Tryz.prog:=pcO 53 [(.s 3),(.s 3)] [.sl 3 (a.map Wnt.v) false,.sl 3 (b.map Wnt.v) false] .k Hl (decide (a=b)) (λ_=>⟨(yW a b),RK a b,by kernel_rfl⟩) rfl (by kernel_rfl)
def Q8(r:Bool):AV:=.bool r
def GS(x:Bool)(y:Bool):Ax Tryz.prog noS (Bool):=
 (.br 48 x (.ret (true))
(.ret (y)))
theorem unC_p(x y:Bool):(GS x y).vp Q8 (x || y):=by
 dsimp only[GS,noS,Ax.vp,Ax.vc];simp only[vcU,rfU,f'];cases x<;>cases y<;>simp
def Q9(x:Bool)(y:Bool):PC Tryz.prog:=pcO 246 [.k,.k] [.bool x,.bool y] .k Q8 (x || y) (λ_=>⟨(GS x y),unC_p x y,by kernel_rfl⟩) rfl (by kernel_rfl)
theorem zD:∀{l m:List Int},l.Pairwise (·<·)→m.Pairwise (·<·)→(∀x,x∈l↔x∈m)→l=m
 | [],[],_,_,_=>rfl
 | [],y::m,_,_,h=>absurd ((h y).mpr (by simp)) (by simp)
 | x::l,[],_,_,h=>absurd ((h x).mp (by simp)) (by simp)
 | x::l,y::m,h1,h2,h=>by
  rw[an']at h1 h2;have e:x=y:=by
   rcases P'.mp ((h x).mp (by simp))with e|e
   ·exact e
   ·rcases P'.mp ((h y).mpr (by simp))with e'|e'
    ·exact e'.symm
    ·have:=h1.1 y e';have:=h2.1 x e;omega
  subst e;rw[zD h1.2 h2.2 λz=>?_]
  constructor
  ·intro hz
   rcases P'.mp ((h z).mp (bN' _ hz))with e|e
   ·have:=h1.1 z hz;omega
   ·exact e
  ·intro hz
   rcases P'.mp ((h z).mpr (bN' _ hz))with e|e
   ·have:=h2.1 z hz;omega
   ·exact e
def uw(a b:Flt):Bool:=a.mode==2 || b.mode==2
def FB(a b:Flt):List Int:=cpt (eJ (a.srcs++b.srcs))
def KZ(a b:Flt)(s:Int):Bool:=(jg a s || jg b s) != uw a b
def cmbR(a b:Flt):Flt:=⟨if uw a b=true then 2 else 1,(FB a b).filter (KZ a b)⟩
theorem pU{m:Int}{l:List Int}(h:ao m l=0):(m=1∨m=2)∧kj l∧jh l:=by
 unfold ao at h
 (repeat' split at h)<;>simp_all
 omega
theorem Tx{a b:Flt}(ha:ao a.mode a.srcs=0)(hb:ao b.mode b.srcs=0):unF a b=(cmbR a b,0):=by
 obtain⟨a1,a2,a3⟩:=pU ha;obtain⟨b1,b2,b3⟩:=pU hb;have hw:∀s,1≤s→nF a b false s=(jg a s || jg b s):=λs hs=>by
  have h1:∀f:Flt,ao f.mode f.srcs=0→dQ f s=jg f s:=λf h=>by
   unfold dQ jg;rw[decide_eq_true h,decide_eq_true hs];rfl
  unfold nF PD;rw[h1 a ha,h1 b hb];cases jg a s<;>cases jg b s<;>rfl
 have hf:∀(f:Flt) s,(f.mode=1∨f.mode=2)→s ∉ f.srcs→jg f s=(f.mode==2):=λf s hm hs=>by
  unfold jg;rcases hm with e|e<;>simp[hs,e]
 have hk:nF a b false 100=uw a b:=by
  rw[hw 100 (by omega),hf a 100 a1 (λq=>by have:=a2 _ q;omega),hf b 100 b1 (λq=>by have:=b2 _ q;omega)];rfl
 show nG a b false=_;rw[nG,u' (by simpa using ha),u' (by simpa using hb),hk];refine congrArg (·,0) ?_
 unfold ofF cmbR;refine congrArg (Flt.mk _) ?_;refine zD ((D0 99).filter _) ((DJ (Hi _)).filter _) λs=>?_;rw[aA',aA',mb];unfold FB;rw[oI,(rq _).mem_iff,L'];have hg:1≤s∧s≤99→(wnB (nF a b false) 99).getD s.toNat false=(jg a s || jg b s):=λh=>by
  rw[J',jO (by omega),bS',as' (by omega),hw s (by omega),decide_eq_true (by omega)];rfl
 unfold KZ
 constructor
 ·rintro⟨h1,h2⟩;rw[hg h1]at h2;refine⟨ae' λq=>?_,by simpa using h2⟩;rw[hf a s a1 (λe=>q (.inl e)),hf b s b1 (λe=>q (.inr e))]at h2;unfold uw at h2;simp at h2
 ·rintro⟨h1,h2⟩;have h3:1≤s∧s≤99:=by rcases h1 with h1|h1;exact a2 s h1;exact b2 s h1
  exact⟨h3,by rw[hg h3];simpa using h2⟩
def P8(a:Flt)(b:Flt)(t0:Int):NF:=⟨[(2,.k,.func 246 []),rR 3 0,rR 4 1,rR 6 2,rB 9 ((a.mode==2) || (b.mode==2)),rR 10 3],[.box (Flt.v a),.box (Flt.v b),.box (.agg [.int 0,.sl 0 [] true]),.box (.agg [.int t0,.sl 0 [] true])]⟩
def P7(a:Flt)(b:Flt)(t0:Int)(t1:Int×List Int):NF:=⟨[(2,.k,.func 246 []),rR 3 0,rR 4 1,rR 6 2,rB 9 ((a.mode==2) || (b.mode==2)),rR 10 3,(44,.k,.sl 1 ((cpt (eJ (([a.srcs,b.srcs]).flatten))).map AV.int) false),rI 45 (((cpt (eJ (([a.srcs,b.srcs]).flatten))).map AV.int).length:Int),rI 46 t1.1],[.box (Flt.v a),.box (Flt.v b),.box (.agg [.int 0,.sl 0 [] true]),.box (.agg [.int t0,.vec 4]),vB 1 AV.int t1.2 (λ_=>rfl)]⟩
@[reducible] def Lb:Nat→Type
 | 0=>Int
 | 1=>Int×List Int
 | _=>Unit
def Lc(r:Flt×Int):AV:=.tup [Flt.v r.1,.int r.2]
def La(a:Flt)(b:Flt)(I0:Int→Prop)(I1:Int→(Int×List Int)→Prop)(m1:Int→(Int×List Int)→Nat):Ax Tryz.prog Lb (Flt×Int):=
 (.callP (nL a)
(.callP (nL b)
(.callP (CD [ao a.mode a.srcs,ao b.mode b.srcs])
(.br 208 ((orI [ao a.mode a.srcs,ao b.mode b.srcs]) != 0) (.ret ((⟨0,[]⟩:Flt),orI [ao a.mode a.srcs,ao b.mode b.srcs]))
(.callP (Q9 (a.mode==2) (b.mode==2))
(.pass (.join 0 (P8 a b) (λ(t0:Int)=>I0 t0) (λb0=>(.br 416 ((a.mode==2) || (b.mode==2)) (.bk 0 b0 ((2):Int) [0,16,32,368])
(.bk 0 b0 ((1):Int) [0,16,32,368]))) λ(t0:Int) =>
(.req 84 (([a.srcs,b.srcs]).length≤1000∧([a.srcs,b.srcs]).flatten.length≤1000000) λh1 =>
(.callH [] (Tr [a.srcs,b.srcs] h1) 84
(.req 132 ((([a.srcs,b.srcs]).flatten).length≤1000000) λh2 =>
(.callH [84] (Nh (([a.srcs,b.srcs]).flatten) h2) 132
(.req 164 ((eJ (([a.srcs,b.srcs]).flatten)).length≤1000000) λh3 =>
(.callH [84] (KM (eJ (([a.srcs,b.srcs]).flatten)) h3) 164
(.cmdL (.nilB 3 1 1) (.loop 1 (P7 a b t0) (I1 t0) (m1 t0) (0,[]) [0,1,2,3,212] λ(t1:Int×List Int) b1 =>
(.br 21 (decide (t1.1<(((cpt (eJ (([a.srcs,b.srcs]).flatten))).map AV.int).length:Int))) (.elI 21 AV.int (cpt (eJ (([a.srcs,b.srcs]).flatten))) t1.1 λx4 =>
(.callP (Kp a x4)
(.callP (Kp b x4)
(.callP (Q9 (jg a x4) (jg b x4))
(.br 229 (!(((jg a x4) || (jg b x4))==((a.mode==2) || (b.mode==2)))) (.apX 293 AV.int t1.2 [x4] (t1.2.length+1)
(.bk 1 b1 (W (t1.1+1),t1.2++[x4]) [0,1,2,3,293]))
(.bk 1 b1 (W (t1.1+1),t1.2) [0,1,2,3,4]))))))
(.fz 4 AV.int t1.2 (λ_=>rfl) (.ret ((⟨t0,t1.2⟩:Flt),0)))))))))))))))))))
theorem D5{m:Int}{l:List Int}(h:ao m l=0):l.length≤99:=by
 obtain⟨_,h2,h3⟩:=pU h;have:=List.Nodup.length_le_of_subset ((lz.mp h3).imp λq=>by omega) (l₂:=frs 99) λx hx=>mb.mpr (h2 x hx);rw[Dz]at this;exact this
theorem nZ{q:Int→Bool}:∀l:List Int,(l.flatMap λs=>if q s=true then [s]else [])=l.filter q
 | []=>rfl
 | x::l=>by rw[ap',nZ l,bJ'];split<;>rfl
theorem Ty(a b:Flt):∃I0 I1 m1,(La a b I0 I1 m1).vp Lc (unF a b):=by
 refine⟨λt=>t=if uw a b=true then 2 else 1,λ_ t=>jM (FB a b) (λs=>if KZ a b s=true then [s]else []) t.1 t.2,λ_ t=>(FB a b).length-t.1.toNat,?_⟩;dsimp only[La,Lb,Ax.vp,Ax.vc];simp only[vcU,rfU,f'];rw[oC]
 refine⟨λc=>?_,λc=>?_⟩
 ·show _=nG a b false;unfold nG;split<;>simp_all
 have ha:ao a.mode a.srcs=0:=by split at c<;>simp_all
 have hb:ao b.mode b.srcs=0:=by split at c<;>simp_all
 rw[Tx ha hb]
 refine⟨⟨λd=>?_,λd=>?_⟩,?_⟩
 ·rw[if_pos (by unfold uw;simpa using d)]
 ·rw[u' (by unfold uw;rw[d];simp)]
 rintro _ rfl;have la:=D5 ha;have lb:=D5 hb;have hfl:([a.srcs,b.srcs].flatten)=a.srcs++b.srcs:=by simp
 rw[hfl];have hN:cpt (eJ (a.srcs++b.srcs))=FB a b:=rfl;have hsl:(eJ (a.srcs++b.srcs)).length=(a.srcs++b.srcs).length:=(rq _).length_eq;have hnl:(FB a b).length≤198:=by
  have:=P3 (eJ (a.srcs++b.srcs));rw[hsl,Y']at this;rw[←hN];omega
 rw[hN];refine⟨⟨by simp,by rw[Y'];omega⟩,by rw[Y'];omega,by rw[hsl,Y'];omega,jM.zero,?_⟩;rintro⟨i,out⟩ h;simp only at h ⊢;have hlen:=h.len (b:=1) λx _=>by split<;>simp
 refine⟨λd=>⟨h.idx,d,λx hx=>⟨λe=>⟨by omega,h.step (by omega) hx ?_⟩,λe=>h.step (by omega) hx ?_⟩⟩,λd=>?_⟩
 ·rw[if_pos (by unfold KZ uw;simpa using e)]
 ·rw[u' (by unfold KZ uw;simpa using e)];simp
 ·rw[h.done d,nZ];rfl
def Tz(a:Flt)(b:Flt):PC Tryz.prog:=pcO 245 [(.a [.k,(.s 1)]),(.a [.k,(.s 1)]),.k] [Flt.v a,Flt.v b,.func 246 []] (.a [(.a [.k,(.s 1)]),.k]) Lc (unF a b) (λ_=>let ⟨I0,I1,m1,h⟩:=Ty a b;⟨_,h,by kernel_rfl⟩) rfl (by kernel_rfl)
def Q6(r:Flt×Int):AV:=.tup [Flt.v r.1,.int r.2]
def GQ(a:Flt)(b:Flt):Ax Tryz.prog noS (Flt×Int):=
 (.callP (Tz a b)
(.ret ((unF a b).1,(unF a b).2)))
theorem unP_p(a b:Flt):(GQ a b).vp Q6 (unF a b):=by
 dsimp only[GQ,noS,Ax.vp,Ax.vc];simp only[vcU,rfU,f']
def unP_c(a:Flt)(b:Flt):PC Tryz.prog:=pcO 140 [(.a [.k,(.s 1)]),(.a [.k,(.s 1)])] [Flt.v a,Flt.v b] (.a [(.a [.k,(.s 1)]),.k]) Q6 (unF a b) (λ_=>⟨(GQ a b),unP_p a b,by kernel_rfl⟩) rfl (by kernel_rfl)
theorem SF{α:Type}{R:α→α→Prop}{l:List α}{k:Nat}{x:α}(h:l.Pairwise R)(h1:∀a∈l.take k,R a x)(h2:∀a∈l.drop k,R x a):(dP l k x).Pairwise R:=by
 have h0:=h;rw[←bf' k l,af']at h0;unfold dP;rw[af',af']
 refine⟨⟨h0.1,aI' _ _,λa ha b hb=>?_⟩,h0.2.1,λa ha b hb=>?_⟩
 ·rw[O']at hb;exact hb ▸ h1 a ha
 ·rcases L'.mp ha with ha|ha
  ·exact h0.2.2 a ha b hb
  ·rw[O']at ha;exact ha ▸ h2 b hb
theorem nh{α:Type}{l:List α}{k:Nat}{x y:α}:y∈dP l k x↔y=x∨y∈l:=by
 rw[(pL l k x).mem_iff,P']
theorem OP{l:List Mem}{x a:Mem}(h:a∈l.take (kQ l x)):ct a x:=by
 obtain⟨i,hi,rfl⟩:=ad' h;rw[bz'];have:=bU' (p:=λy=>!jv y x) (xs:=l) (i:=i) (by simp at hi;unfold kQ at hi;omega);have e:(!jv (l[i]'(by simp at hi;omega)) x)=false:=this;rw[bk']at e;exact e
theorem Im{l:List Mem}{x y:Mem}(h:y∈mW l x):y∈l∨y=x:=by
 unfold mW at h
 split at h
 ·rcases bp' h with h|h
  ·exact .inl h
  ·exact .inr h
 ·exact(nh.mp h).symm
theorem On{l:List Mem}{x:Mem}(h:l.Pairwise ct):(mW l x).Pairwise ct:=by
 unfold mW
 split
 ·rename_i e;unfold wi at e
  split at e
  ·rename_i y hy;have hlt:=av hy;have hyx:y.grp=x.grp∧y.host=x.host:=by simpa using e
   rw[ac']at h ⊢;intro i j hi hj hij;rw[List.length_set]at hi hj;have:=h i j hi hj hij;rw[E' hlt]at hy;have hy:=ao' hy;rw[bb',bb']
   by_cases e1:kQ l x=i
   ·rw[if_pos e1,u' (by omega)];simp only[←e1,hy]at this;simpa[ct,lu,hyx]using this
   ·rw[u' e1]
    by_cases e2:kQ l x=j
    ·rw[if_pos e2];simp only[←e2,hy]at this;simpa[ct,lu,hyx]using this
    ·rw[u' e2];exact this
  ·cases e
 ·rename_i e;refine SF h (λa ha=>OP ha) λa ha=>?_;have hlt:kQ l x<l.length:=by
   refine ae' λq=>?_;rw[aJ' (by omega)]at ha;simp at ha
  have h1:jv l[kQ l x] x=false:=by
   have:=ca' (p:=λy=>!jv y x) (xs:=l) (w:=hlt);rw[bd']at this;exact this
  have h2:¬(l[kQ l x].grp=x.grp∧l[kQ l x].host=x.host):=λq=>e (by rw[wi,E' hlt];simp[q.1,q.2]);have h3:ct x l[kQ l x]:=by
   simp only[jv,Bool.or_eq_false_iff,Bool.and_eq_false_iff,decide_eq_false_iff_not,beq_eq_false_iff_ne]at h1;simp only[ct,lu,bW',aK',decide_eq_true_eq,bT'];omega
  rw[ar' hlt]at ha
  rcases P'.mp ha with rfl|ha
  ·exact h3
  ·have hp:(l.drop (kQ l x)).Pairwise ct:=h.sublist (ck' _ _);rw[ar' hlt,an']at hp;exact pB _ _ _ h3 (hp.1 a ha)
structure yu (now:Int) (x:Mem):Prop where
  host:1≤x.host∧x.host≤8
  grp:1≤x.grp∧x.grp≤4
  flt:ao x.mode x.srcs=0
  no:¬(x.mode=1∧x.srcs=[])
  til:now≤x.til∧x.til≤now+1000
theorem OC(L:List Int)(now:Int)(p:Nat):yu now (qY L now p).1:=by
 have hf:=qe L (ab L (ab L p));have h4:=gf (l:=[0,1,30,1000]) (a:=0) (b:=1000) (by decide) (by decide) (aj L (aw L (ab L (ab L p))).2);have h1:=jq (L:=L) (p:=p) (lo:=1) (hi:=8) (by omega);have h2:=jq (L:=L) (p:=ab L p) (lo:=1) (hi:=4) (by omega);unfold qY;generalize aw L (ab L (ab L p))=F at *
 refine⟨h1,h2,?_,?_,by simp only;omega⟩
 ·show ao (if F.1.mode=1∧F.1.srcs=[]then 2 else F.1.mode) F.1.srcs=0
  split
  ·rename_i c;rw[c.2];decide
  ·exact hf
 ·show ¬((if F.1.mode=1∧F.1.srcs=[]then 2 else F.1.mode)=1∧F.1.srcs=[])
  split
  ·omega
  ·assumption
theorem wg{L:List Int}{now:Int}:∀{n:Nat} {l:List Mem} {p:Nat},(∀x∈l,yu now x)→l.Pairwise ct→(∀x∈(im L now n l p).1,yu now x)∧(im L now n l p).1.Pairwise ct∧(im L now n l p).1.length≤l.length+n
 | 0,l,p,h1,h2=>⟨h1,h2,by simp[im]⟩
 | n+1,l,p,h1,h2=>by
  rw[im]
  obtain⟨a,b,c⟩:=wg (L:=L) (now:=now) (n:=n) (l:=mW l (qY L now p).1) (p:=(qY L now p).2)
   (λx hx=>by
    rcases Im hx with hx|rfl
    ·exact h1 x hx
    ·exact OC L now p) (On h2)
  have:=vK l (qY L now p).1;exact⟨a,b,by omega⟩
theorem we(L:List Int){n:Int}(p:Nat)(h:0≤n∧n≤1000):(0≤(bx L n p).1.now∧(bx L n p).1.now≤998000)∧(∀x∈(bx L n p).1.list,yu (bx L n p).1.now x)∧(bx L n p).1.list.Pairwise ct∧(bx L n p).1.list.length≤n:=by
 have hnow:=gf (l:=[0,10,500,998000]) (a:=0) (b:=998000) (by decide) (by decide) (aj L p);have hm:=bw (x:=aj L (ab L p)) (show 1≤n+1 by omega);obtain⟨a,b,c⟩:=wg (L:=L) (now:=(bx L n p).1.now) (n:=(Mod (aj L (ab L p)) (n+1)).toNat) (l:=[]) (p:=ab L (ab L p)) (by simp) List.Pairwise.nil;refine⟨hnow,a,b,?_⟩;have c:(bx L n p).1.list.length≤0+(Mod (aj L (ab L p)) (n+1)).toNat:=c;omega
theorem CI(w:List Bool)(g:Bool):ao (ofF w g).mode (ofF w g).srcs=0:=by
 have h1:(ofF w g).mode=1∨(ofF w g).mode=2:=by unfold ofF;cases g<;>simp
 have h2:kj (ofF w g).srcs:=λs hs=>by
  have:=mb.mp (aA'.mp hs).1;omega
 have h3:jh (ofF w g).srcs:=lz.mpr ((D0 99).sublist List.filter_sublist);rw[ao,u' (not_not_intro h1),u' (not_not_intro h2),u' (not_not_intro h3)]
theorem Ox{Z:Int→Bool}{s:Int}(h:1≤s∧s≤100):dQ (ofF (wnB Z 99) (Z 100)) s=Z s:=by
 rw[dQ,decide_eq_true (CI _ _),decide_eq_true h.1,Bool.true_and,Bool.true_and];have hm:decide ((ofF (wnB Z 99) (Z 100)).mode=1)=!Z 100:=by
  unfold ofF;cases Z 100<;>simp
 rw[hm]
 by_cases e:s=100
 ·subst e;have:decide ((100:Int)∈(ofF (wnB Z 99) (Z 100)).srcs)=false:=decide_eq_false λhs=>by
   have:=mb.mp (aA'.mp hs).1;omega
  rw[this];cases Z 100<;>rfl
 ·have hg:(wnB Z 99).getD s.toNat false=Z s:=by
   rw[J',jO (by omega),decide_eq_true (by omega),Bool.true_and,show((s.toNat:Nat):Int)=s by omega];rfl
  have:decide (s∈(ofF (wnB Z 99) (Z 100)).srcs)=!(Z s==Z 100):=by
   rw[cj',decide_eq_true_eq];rw[show(ofF (wnB Z 99) (Z 100)).srcs=(frs 99).filter λs=>!((wnB Z 99).getD s.toNat false==Z 100)from rfl,aA',hg,mb]
   constructor
   ·exact λq=>q.2
   ·exact λq=>⟨by omega,q⟩
  rw[this];cases Z s<;>cases Z 100<;>rfl
theorem Ey{a b:Flt}(ha:ao a.mode a.srcs=0)(hb:ao b.mode b.srcs=0):(unF a b).2=0∧ao (unF a b).1.mode (unF a b).1.srcs=0∧∀s,1≤s∧s≤100→dQ (unF a b).1 s=(dQ a s || dQ b s):=by
 have e:unF a b=(ofF (wnB (nF a b false) 99) (nF a b false 100),0):=by rw[unF,nG,u' (not_not_intro ha),u' (not_not_intro hb)]
 rw[e];refine⟨rfl,CI _ _,λs hs=>?_⟩;show dQ (ofF _ _) s=_;rw[Ox hs];unfold nF PD;cases dQ a s<;>cases dQ b s<;>rfl
theorem Gg{f:Flt}(h:ao f.mode f.srcs=0)(hn:¬(f.mode=1∧f.srcs=[])):∃s,(1≤s∧s≤100)∧dQ f s=true:=by
 have hm:f.mode=1∨f.mode=2:=by
  refine ae' λq=>?_;rw[ao,if_pos q]at h;cases h
 have hr:kj f.srcs:=by
  refine ae' λq=>?_;rw[ao,u' (not_not_intro hm),if_pos q]at h;cases h
 rcases hm with hm|hm
 ·cases hs:f.srcs with
  | nil=>exact absurd ⟨hm,hs⟩ hn
  | cons s l =>
   have:=hr s (by rw[hs];simp);refine⟨s,by omega,?_⟩;rw[dQ,decide_eq_true h,decide_eq_true this.1,hs,hm];simp
 ·refine⟨100,by omega,?_⟩;have:decide ((100:Int)∈f.srcs)=false:=decide_eq_false λq=>by have:=hr 100 q;omega
  rw[dQ,decide_eq_true h,this,hm];rfl
theorem M9{f:Flt}{s:Int}(h:dQ f s=true):¬(f.mode=1∧f.srcs=[]):=by
 rintro⟨h1,h2⟩;rw[dQ,h1,h2]at h;simp at h
theorem kY{m:aK}(h:aZ m=0):(bz m).Pairwise (·<·)∧∀g,g∈bz m↔∃x∈m.list,x.grp=g:=by
 rw[bz,if_pos h];have key:∀(l:List Mem) (s:List Int),jh s→jh (l.foldl (λout x=>put out x.grp) s)∧∀g,g∈l.foldl (λout x=>put out x.grp) s↔g∈s∨∃x∈l,x.grp=g:=by
  intro l
  induction l with
  | nil=>intro s hs;exact⟨hs,λg=>by simp⟩
  | cons x l ih =>
   intro s hs;obtain⟨a,b⟩:=ih (put s x.grp) (tE hs);refine⟨a,λg=>?_⟩;rw[ax',b];have hp:g∈put s x.grp↔g∈s∨g=x.grp:=by
    refine⟨tD,λq=>?_⟩;unfold put
    split
    ·rename_i e
     rcases q with q|q
     ·exact q
     ·exact q ▸ ax e
    ·exact nh.mpr q.symm
   rw[hp]
   constructor
   ·rintro((q|q)|⟨y,q1,q2⟩)
    ·exact .inl q
    ·exact .inr ⟨x,by simp,q.symm⟩
    ·exact .inr ⟨y,by simp[q1],q2⟩
   ·rintro(q|⟨y,q1,q2⟩)
    ·exact .inl (.inl q)
    ·rcases P'.mp q1 with rfl|q1
     ·exact .inl (.inr q2.symm)
     ·exact .inr ⟨y,q1,q2⟩
 obtain⟨a,b⟩:=key m.list [] (lz.mpr List.Pairwise.nil);exact⟨lz.mp a,λg=>by rw[b];simp⟩
theorem xh{m:aK}(h:aZ m=0)(g:Int):ao (nX m g).mode (nX m g).srcs=0∧((∃x∈m.list,x.grp=g)→¬((nX m g).mode=1∧(nX m g).srcs=[])):=by
 obtain⟨-,-,-,h4,h5,-⟩:=dB h
 have key:∀(l:List Mem) (f:Flt),(∀x∈l,x∈m.list)→ao f.mode f.srcs=0→ao (l.foldl (λf x=>if x.grp=g then(unF f ⟨x.mode,x.srcs⟩).1 else f) f).mode (l.foldl (λf x=>if x.grp=g then(unF f ⟨x.mode,x.srcs⟩).1 else f) f).srcs=0 ∧
   ∀s,1≤s∧s≤100→(dQ f s=true∨∃x∈l,x.grp=g∧dQ ⟨x.mode,x.srcs⟩ s=true)→dQ (l.foldl (λf x=>if x.grp=g then(unF f ⟨x.mode,x.srcs⟩).1 else f) f) s=true:=by
  intro l
  induction l with
  | nil=>intro f _ hf;exact⟨hf,λs _ q=>by simpa using q⟩
  | cons x l ih =>
   intro f hl hf;have hx:=h4 x (hl x (by simp));rw[ax']
   by_cases e:x.grp=g
   ·rw[if_pos e];obtain⟨u1,u2,u3⟩:=Ey hf (b:=⟨x.mode,x.srcs⟩) hx;obtain⟨a,b⟩:=ih (unF f ⟨x.mode,x.srcs⟩).1 (λy hy=>hl y (by simp[hy])) u2;refine⟨a,λs hs q=>b s hs ?_⟩;rw[u3 s hs]
    rcases q with q|⟨y,q1,q2,q3⟩
    ·left;rw[q];rfl
    ·rcases P'.mp q1 with rfl|q1
     ·left;rw[q3];simp
     ·exact .inr ⟨y,q1,q2,q3⟩
   ·rw[u' e];obtain⟨a,b⟩:=ih f (λy hy=>hl y (by simp[hy])) hf;refine⟨a,λs hs q=>b s hs ?_⟩
    rcases q with q|⟨y,q1,q2,q3⟩
    ·exact .inl q
    ·rcases P'.mp q1 with rfl|q1
     ·exact absurd q2 e
     ·exact .inr ⟨y,q1,q2,q3⟩
 obtain⟨a,b⟩:=key m.list ⟨1,[]⟩ (λ_ h=>h) (by decide);refine⟨a,λ⟨x,hx,hg⟩=>?_⟩;obtain⟨s,hs,hw⟩:=Gg (f:=⟨x.mode,x.srcs⟩) (h4 x hx) (h5 x hx);exact M9 (b s hs (.inr ⟨x,hx,hg,hw⟩))
theorem fU{m:aK}(h:aZ m=0)(hg:∀x∈m.list,1≤x.grp∧x.grp≤4):ofW m=((bz m).map (yH m),0)∧WOk 7 ((bz m).map (yH m)):=by
 obtain⟨g1,g2⟩:=kY h;have hr:∀g∈bz m,1≤g∧g≤4:=λg q=>by
  obtain⟨x,hx,rfl⟩:=(g2 g).mp q;exact hg x hx
 have hl:(bz m).length≤4:=mY (R:=[1,2,3,4]) (g1.imp λq=>by omega) λg q=>by
  have:=hr g q;have:g=1∨g=2∨g=3∨g=4:=by omega
  simpa using this
 refine⟨by rw[ofW,u' (not_not_intro h),u' (by omega)],λw hw=>?_,λw hw=>?_,λw hw=>?_,?_,by rw[f'];omega⟩
 ·obtain⟨g,q,rfl⟩:=R'.mp hw;have:=hr g q;exact⟨this.1,by show g<7;omega⟩
 ·obtain⟨g,q,rfl⟩:=R'.mp hw;exact(xh h g).1
 ·obtain⟨g,q,rfl⟩:=R'.mp hw;exact(xh h g).2 ((g2 g).mp q)
 ·rw[at'];exact g1
theorem Km{m:aK}(h:aZ m=0):cpt (m.list.map (·.grp))=bz m:=by
 obtain⟨g1,g2⟩:=kY h;have hs:=(dB h).2.2.2.2.2
 refine zD (DJ ?_) g1 λz=>?_
 ·rw[at'];exact hs.imp λ{x y} q=>by rcases jW.mp q with q|q<;>omega
 ·rw[oI,g2,R']
def Pm(m:aK)(t0:Int×List Int):NF:=⟨[rV 3 0,(10,.k,.sl 5 (m.list.map Mem.v) false),rI 11 ((m.list.map Mem.v).length:Int),rI 12 t0.1],[vB 1 AV.int t0.2 (λ_=>rfl)]⟩
@[reducible] def Kg:Nat→Type
 | 0=>Int×List Int
 | _=>Unit
def Kh(r:List Int):AV:=.sl 1 (r.map AV.int) false
def Kf(m:aK)(I0:(Int×List Int)→Prop)(m0:(Int×List Int)→Nat):Ax Tryz.prog Kg ((List Int)):=
 (.callP (zC m)
(.br 80 ((aZ m) != 0) (.ret ([]))
(.cmdL (.nilT 3 1) (.loop 0 (Pm m) I0 m0 (0,[]) [160] λ(t0:Int×List Int) b0 =>
(.br 17 (decide (t0.1<((m.list.map Mem.v).length:Int))) (.elI 17 Mem.v m.list t0.1 λx1 =>
(.apX 145 AV.int t0.2 [x1.grp] (t0.2.length+1)
(.bk 0 b0 (W (t0.1+1),t0.2++[x1.grp]) [145])))
(.req 33 (t0.2.length≤1000000) λh2 =>
(.callH [0] (KM t0.2 h2) 33
(.ret (cpt t0.2)))))))))
theorem SS(m:aK):∃I0 m0,(Kf m I0 m0).vp Kh (bz m):=by
 refine⟨λt=>jM m.list (λx=>[x.grp]) t.1 t.2,λt=>m.list.length-t.1.toNat,?_⟩;dsimp only[Kf,Kg,Ax.vp,Ax.vc];simp only[vcU,rfU,f']
 refine⟨λc=>?_,λc=>⟨jM.zero,?_⟩⟩
 ·rw[bz,u' (by simpa using c)]
 have c:aZ m=0:=by simpa using c
 have hl:=(dB c).2.1;rintro⟨i,out⟩ h;simp only at h ⊢;have hlen:=h.len (b:=1) λx _=>by simp
 refine⟨λd=>⟨h.idx,d,λx hx=>⟨by omega,h.step (by omega) hx rfl⟩⟩,λd=>⟨by omega,?_⟩⟩;rw[h.done d,nY];exact Km c
def SU(m:aK):PC Tryz.prog:=pcO 139 [(.a [.k,(.s 5)])] [aK.v m] (.s 1) Kh (bz m) (λ_=>let ⟨I0,m0,h⟩:=SS m;⟨_,h,by kernel_rfl⟩) rfl (by kernel_rfl)
def yM(g:Int)(f:Flt)(x:Mem):Flt:=if x.grp=g then(unF f ⟨x.mode,x.srcs⟩).1 else f
def wnF(g:Int)(f:Flt):Wnt:=⟨g,f.mode,f.srcs⟩
theorem oW{g:Int}:∀{l:List Mem} {f:Flt},(∀y∈l,y.grp≠g)→l.foldl (yM g) f=f
 | [],_,_=>rfl
 | y::l,f,h=>by
  rw[ax',yM,u' (h y (by simp))];exact oW λz hz=>h z (by simp[hz])
structure OfI (m:aK) (i k:Nat):Prop where
  le:i≤m.list.length
  a:∀y∈m.list.take i,y.grp∈(bz m).take k
  b:∀y∈m.list.drop i,y.grp ∉ (bz m).take k
def ofO(m:aK)(k:Nat):List Wnt:=((bz m).take k).map (yH m)++List.replicate ((bz m).length-k) ⟨0,0,[]⟩
def Ss(m:aK)(t0:Int×Int×List Wnt):NF:=⟨[rR 1 0,rV 6 1,rI 7 t0.1,(23,.k,.sl 1 ((bz m).map AV.int) false),rI 24 (((bz m).map AV.int).length:Int),rI 25 t0.2.1],[.box (aK.v m),vB 3 Wnt.v t0.2.2 (λ_=>rfl)]⟩
def Sr(m:aK)(t0:Int×Int×List Wnt)(x1:Int)(t1:Int×List Wnt):NF:=⟨[rR 1 0,rV 6 1,rI 7 t1.1,rI 8 t0.2.1,rI 9 x1,(23,.k,.sl 1 ((bz m).map AV.int) false),rI 24 (((bz m).map AV.int).length:Int),rI 25 t0.2.1],[.box (aK.v m),vB 3 Wnt.v t1.2 (λ_=>rfl)]⟩
def Sp(m:aK)(t0:Int×Int×List Wnt)(x1:Int)(t1:Int×List Wnt)(t2:Bool):NF:=⟨[rR 1 0,rV 6 1,rI 7 t1.1,rI 8 t0.2.1,rI 9 x1,(23,.k,.sl 1 ((bz m).map AV.int) false),rI 24 (((bz m).map AV.int).length:Int),rI 25 t0.2.1,rB 50 t2],[.box (aK.v m),vB 3 Wnt.v t1.2 (λ_=>rfl)]⟩
@[reducible] def QT:Nat→Type
 | 0=>Int×Int×List Wnt
 | 1=>Int×List Wnt
 | 2=>Bool
 | _=>Unit
def QU(r:List Wnt×Int):AV:=.tup [.sl 3 (r.1.map Wnt.v) false,.int r.2]
def QS(m:aK)(I0:(Int×Int×List Wnt)→Prop)(m0:(Int×Int×List Wnt)→Nat)(I1:Int×Int×List Wnt→Int→Wnt→(Int×List Wnt)→Prop)(m1:Int×Int×List Wnt→Int→Wnt→(Int×List Wnt)→Nat)(I2:Int×Int×List Wnt→Int→Wnt→Int×List Wnt→Bool→Prop):Ax Tryz.prog QT (List Wnt×Int):=
 (.callP (zC m)
(.br 128 ((aZ m) != 0) (.ret ([],aZ m))
(.callP (SU m)
(.br 224 (decide (32<(((bz m).map AV.int).length:Int))) (.ret ([],3))
(.say (λR=>Rf (AV.agg [.int 0,.int 0,.sl 0 [] true]) (ck (cond (decide (0≤(((bz m).map AV.int).length:Int))) (cond (decide ((((bz m).map AV.int).length:Int)≤(((bz m).map AV.int).length:Int))) (decide ((((bz m).map AV.int).length:Int)≤1048576)) false) false)
R)) (.rep 256 (λy:AV=>y) (.agg [.int 0,.int 0,.sl 0 [] true])
(.say (λR=>Q1 (.a [.k,.k,(.s 1)]) Wnt.v ((((bz m).map AV.int).length:Int).toNat) (.agg [.int 0,.int 0,.sl 0 [] true]) (⟨0,0,[]⟩:Wnt) ∧
R) (.cmd (.wkV 256 (.a [.k,.k,(.s 1)]) Wnt.v (List.replicate ((((bz m).map AV.int).length:Int).toNat) (⟨0,0,[]⟩:Wnt))) (.loop 0 (Ss m) I0 m0 (0,0,List.replicate ((((bz m).map AV.int).length:Int).toNat) (⟨0,0,[]⟩:Wnt)) [0,256] λ(t0:Int×Int×List Wnt) b0 =>
(.br 18 (decide (t0.2.1<(((bz m).map AV.int).length:Int))) (.elI 34 AV.int (bz m) t0.2.1 λx1 =>
(.say (ck (cond (decide (0≤t0.2.1)) (decide (t0.2.1<((t0.2.2.map Wnt.v).length:Int))) false)) (.stI 194 Wnt.v t0.2.2 (λR=>Rf (t0.2.2.map Wnt.v) (ck (decide (t0.2.1.toNat<t0.2.2.length))
(∀y2,t0.2.2[t0.2.1.toNat]?=some y2 →
((R y2))))) λy2 =>
(.say (λR=>Rf (α:=List AV) ((t0.2.2.map Wnt.v).set t0.2.1.toNat (.agg [.int x1,.int 1,.sl 0 [] true])) (Rf (Wnt.v (⟨x1,1,[]⟩:Wnt))
R)) (.cmd (.wkS 1 t0.2.1.toNat (.a [.k,.k,(.s 1)]) Wnt.v t0.2.2 (.agg [.int x1,.int 1,.sl 0 [] true]) (⟨x1,1,[]⟩:Wnt)) (.loop 1 (Sr m t0 x1) (I1 t0 x1 y2) (m1 t0 x1 y2) (t0.1,t0.2.2.set t0.2.1.toNat (⟨x1,1,[]⟩:Wnt)) [0,1] λ(t1:Int×List Wnt) b1 =>
(.pass (.join 2 (Sp m t0 x1 t1) (λ(t2:Bool)=>I2 t0 x1 y2 t1 t2) (λb2=>(.br 98 (decide (t1.1<((m.list.map Mem.v).length:Int))) (.elI 146 Mem.v m.list t1.1 λx3 =>
(.bk 2 b2 ((x3.grp==x1):Bool) [0,1]))
(.bk 2 b2 ((false):Bool) [0,1]))) λ(t2:Bool) =>
(.br 2 t2 (.elJ 98 Wnt.v t1.2 t0.2.1 λx4 =>
(.elI 162 Mem.v m.list t1.1 λx5 =>
(.callP (unP_c (⟨x4.mode,x4.srcs⟩:Flt) (⟨x5.mode,x5.srcs⟩:Flt))
(.stJ 306 Wnt.v t1.2 t0.2.1 (λy6=>(⟨y6.grp,((unF (⟨x4.mode,x4.srcs⟩:Flt) (⟨x5.mode,x5.srcs⟩:Flt)).1).mode,((unF (⟨x4.mode,x4.srcs⟩:Flt) (⟨x5.mode,x5.srcs⟩:Flt)).1).srcs⟩:Wnt)) λy6 =>
(.bk 1 b1 (W (t1.1+1),t1.2.set t0.2.1.toNat (⟨y6.grp,((unF (⟨x4.mode,x4.srcs⟩:Flt) (⟨x5.mode,x5.srcs⟩:Flt)).1).mode,((unF (⟨x4.mode,x4.srcs⟩:Flt) (⟨x5.mode,x5.srcs⟩:Flt)).1).srcs⟩:Wnt)) [0,1])))))
(.bk 0 b0 (t1.1,W (t0.2.1+1),t1.2) [0,1]))))))))))
(.fz 1 Wnt.v t0.2.2 (λ_=>rfl) (.ret (t0.2.2,0)))))))))))))
theorem ofP_p(m:aK):∃I0 m0 I1 m1 I2,(QS m I0 m0 I1 m1 I2).vp QU (ofW m):=by
 refine⟨λt=>∃i k:Nat,t.1=i∧t.2.1=k∧k≤(bz m).length∧t.2.2=ofO m k∧OfI m i k,λt=>(bz m).length-t.2.1.toNat,
  λt g _ u=>∃i:Nat,u.1=i∧i≤m.list.length∧u.2=t.2.2.set t.2.1.toNat (wnF g ((m.list.take i).foldl (yM g) ⟨1,[]⟩))∧(∀y∈m.list.take i,y.grp∈(bz m).take t.2.1.toNat∨y.grp=g)∧∀y∈m.list.drop i,y.grp ∉ (bz m).take t.2.1.toNat,
  λ_ _ _ u=>m.list.length-u.1.toNat,λ_ g _ u b=>b=match m.list[u.1.toNat]? with|some y=>y.grp==g|none=>false,?_⟩
 dsimp only[QS,QT,Ax.vp,Ax.vc];simp only[vcU,rfU,f']
 refine⟨λc=>?_,λc=>⟨λd=>?_,λd=>?_⟩⟩
 ·rw[ofW,if_pos (by simpa using c)]
 ·rw[ofW,u' (by simpa using c),if_pos (by omega)]
 have c:aZ m=0:=by simpa using c
 obtain⟨_,hl,_,_,_,hs⟩:=dB c;obtain⟨g1,g2⟩:=kY c;have hof:ofW m=((bz m).map (yH m),0):=by rw[ofW,u' (not_not_intro c),u' (by omega)]
 rw[hof];have hgl:(bz m).length≤32:=by omega
 refine⟨by simp;omega,?_,⟨0,0,rfl,rfl,aP' _,?_,⟨aP' _,by simp,by simp⟩⟩,?_⟩
 ·exact D7 rfl
 ·simp[ofO]
 rintro⟨_,_,out⟩ ⟨i,k,rfl,rfl,hk,ho,hI⟩;simp only at ho ⊢;simp only[Int.toNat_natCast];have hol:out.length=(bz m).length:=by rw[ho];simp[ofO];omega
 refine⟨λe=>⟨by omega,e,λg hg=>⟨kN (by omega) (by omega),by omega,λy2 hy2=>⟨⟨i,rfl,hI.le,?_,λy hy=>.inl (hI.a y hy),hI.b⟩,?_⟩⟩⟩,λe=>?_⟩
 ·have hlt:∀q∈(bz m).take k,q<g:=λq hq=>by
   obtain⟨j,hj,rfl⟩:=bL'.mp hq;have hk2:=av hg;obtain⟨h1,h2⟩:=I'.mp hg;rw[←h2];exact ac'.mp g1 _ _ _ h1 (by omega)
  rw[oW λy hy=>by have:=hlt _ (hI.a y hy);omega];rfl
 ·rintro⟨_,u⟩ ⟨j,rfl,hj,hu,ha,hb⟩;simp only at hu ⊢;simp only[Int.toNat_natCast];have hul:u.length=(bz m).length:=by rw[hu,List.length_set];exact hol
  have hkl:k<(bz m).length:=av hg;have hgt:(bz m)[k]?=some g:=hg;have htk:(bz m).take (k+1)=(bz m).take k++[g]:=al hgt;have hge:∀q,q∈bz m→q ∉ (bz m).take k→g≤q:=λq hq hn=>by
   obtain⟨w,hw,rfl⟩:=bl'.mp hq;obtain⟨h1,h2⟩:=I'.mp hgt;have hkw:k≤w:=ae' λr=>hn (bL'.mpr ⟨w,by omega,rfl⟩)
   rcases Nat.lt_or_eq_of_le hkw with r|r
   ·have:=ac'.mp g1 _ _ h1 hw r;omega
   ·subst r;omega
  refine⟨⟨λq=>⟨by omega,q,λx hx=>by rw[hx]⟩,λq=>by rw[av' (by omega)]⟩,?_⟩;rintro bb hbb;have hw1:W ((j:Int)+1)=((j+1:Nat):Int):=ci (by omega);have hw2:W ((k:Int)+1)=((k+1:Nat):Int):=am (n:=(bz m).length) hkl (by omega);rw[hw1,hw2]
  refine⟨λq=>?_,λq=>?_⟩
  ·cases hx:m.list[j]? with
   | none=>rw[hx]at hbb;simp only at hbb;rw[hbb]at q;cases q
   | some x =>
    rw[hx]at hbb;simp only at hbb;have hxg:x.grp=g:=by rw[hbb]at q;exact eq_of_beq q
    have hjl:=av hx;refine⟨kN (by omega) (by omega),by omega,λx1 hx1=>⟨by omega,by omega,λx2 hx2=>⟨kN (by omega) (by omega),by omega,λo hoo=>?_⟩⟩⟩;cases hx2;rw[hx1]at hoo;cases hoo;have hx1':x1=wnF g ((m.list.take j).foldl (yM g) ⟨1,[]⟩):=by
     rw[hu,List.getElem?_set_self (by omega)]at hx1;exact(ao' hx1).symm
    refine⟨⟨j+1,rfl,by omega,?_,λy hy=>?_,λy hy=>hb y ?_⟩,by omega⟩
    ·rw[al hx,aO',ax',List.foldl_nil,hu,List.set_set]
     congr 1
     rw[yM,if_pos hxg,hx1'];rfl
    ·rw[al hx]at hy
     rcases L'.mp hy with hy|hy
     ·exact ha y hy
     ·rw[O'.mp hy];exact .inr hxg
    ·exact aj' (i:=1) (by rw[List.drop_drop];exact hy)
  ·have hno:∀y∈m.list.drop j,y.grp≠g:=by
    cases hx:m.list[j]? with
    | none =>
     intro y hy;rw[aJ' (by have:=List.getElem?_eq_none_iff.mp hx;omega)]at hy;cases hy
    | some x =>
     rw[hx]at hbb;simp only at hbb;have hxg:¬x.grp=g:=by rw[hbb]at q;simpa using q
     have hjl:=av hx;obtain⟨h1,h2⟩:=I'.mp hx;have hd:m.list.drop j=x::m.list.drop (j+1):=by rw[ar' h1,h2]
     have hxm:x∈m.list:=ak' hx;have hgx:=hge x.grp ((g2 _).mpr ⟨x,hxm,rfl⟩) (hb x (by rw[hd];simp));intro y hy;rw[hd]at hy
     rcases P'.mp hy with rfl|hy
     ·exact hxg
     ·have hp:=hs.sublist (ck' j m.list);rw[hd,an']at hp;rcases jW.mp (hp.1 y hy)with r|r<;>omega
   refine⟨⟨j,k+1,rfl,rfl,hkl,?_,⟨hj,λy hy=>?_,λy hy=>?_⟩⟩,by omega⟩
   ·have hfo:(m.list.take j).foldl (yM g) ⟨1,[]⟩=nX m g:=by
     show _=m.list.foldl (yM g) ⟨1,[]⟩
     conv=>rhs;rw[←bf' j m.list]
     rw[aO',oW hno]
    rw[hu,hfo,ho];have:(bz m).length-k=((bz m).length-(k+1))+1:=by omega
    unfold ofO;rw[this,List.replicate_succ,htk,List.map_append,bo',bK' _ _ (by simp;omega)];simp;rw[show k-min k (bz m).length=0 by omega];rfl
   ·rw[htk]
    rcases ha y hy with r|r
    ·exact L'.mpr (.inl r)
    ·exact L'.mpr (.inr (by simp[r]))
   ·rw[htk];intro r
    rcases L'.mp r with r|r
    ·exact hb y hy r
    ·exact hno y hy (O'.mp r)
 ·have:k=(bz m).length:=by omega
  rw[ho,ofO,this];simp
def QV(m:aK):PC Tryz.prog:=pcO 49 [(.a [.k,(.s 5)])] [aK.v m] (.a [(.s 3),.k]) QU (ofW m) (λ_=>let ⟨I0,m0,I1,m1,I2,h⟩:=ofP_p m;⟨_,h,by kernel_rfl⟩) rfl (by kernel_rfl)
theorem Cy{L:List Int}:∀{n:Nat} {id:Int} {p:Nat} {rs:List Rtr},0≤id→(rs.map Rtr.id).Pairwise (·<·)→(∀r∈rs,1≤r.id∧r.id≤id∧r.cap=true) →
  ((o3 L n id p rs).1.map Rtr.id).Pairwise (·<·)∧∀r∈(o3 L n id p rs).1,1≤r.id∧r.id≤id+5 * n∧r.cap=true
 | 0,id,p,rs,h0,h1,h2=>⟨h1,λr hr=>by have:=h2 r hr;exact⟨this.1,by omega,this.2.2⟩⟩
 | n+1,id,p,rs,h0,h1,h2=>by
  have h5:=QF (L:=L) (p:=p);rw[o3]
  obtain⟨a,b⟩:=Cy (L:=L) (n:=n) (id:=id+ay [1,1,1,2,5] (aj L p)) (p:=ab L p) (rs:=rs++[⟨id+ay [1,1,1,2,5] (aj L p),true⟩]) (by omega)
   (by
    rw[List.map_append,af'];refine⟨h1,aI' _ _,λx hx y hy=>?_⟩;obtain⟨r,hr,rfl⟩:=R'.mp hx;have:=h2 r hr;have hy:y=id+ay [1,1,1,2,5] (aj L p):=by simpa using hy
    omega)
   (λr hr=>by
    rcases L'.mp hr with hr|hr
    ·have:=h2 r hr;exact⟨this.1,by omega,this.2.2⟩
    ·have hr:r=⟨id+ay [1,1,1,2,5] (aj L p),true⟩:=by simpa using hr
     subst hr;exact⟨by show 1≤id+_;omega,ah' _,rfl⟩)
  exact⟨a,λr hr=>by have:=b r hr;exact⟨this.1,by omega,this.2.2⟩⟩
theorem oU{L:List Int}{p:Nat}{most:Int}(h:1≤most∧most≤100):(1≤(bK L p most).1.rs.length∧(bK L p most).1.rs.length≤most)∧((bK L p most).1.rs.map Rtr.id).Pairwise (·<·) ∧
  ∀r∈(bK L p most).1.rs,1≤r.id∧r.id≤5 * most∧r.cap=true:=by
 have hn:=jq (L:=L) (p:=p) (lo:=1) (hi:=most) (by omega);have hl:(bK L p most).1.rs.length=(rng L p 1 most).toNat:=by
  show(cr L p most).1.length=_;rw[cr,pg];simp
 obtain⟨a,b⟩:=Cy (L:=L) (n:=(rng L p 1 most).toNat) (id:=0) (p:=ab L p) (rs:=[]) (by omega) List.Pairwise.nil (by simp);exact⟨by omega,a,λr hr=>by have:=b r hr;exact⟨this.1,by omega,this.2.2⟩⟩
structure Ul (rs:List Rtr) (ks:List Int) (id:Int) (es:List Edg):Prop where
  nd:(es.map Edg.router).Nodup
  at_:∀e∈es,∃(j:Nat) (r:Rtr),(j:Int) ∉ ks∧rs[j]?=some r∧r.id=e.router
  asc:(es.map Edg.id).Pairwise (·<·)
  ids:∀e∈es,1≤e.id∧e.id≤id
theorem tI{L:List Int}{rs:List Rtr}(hid:(rs.map Rtr.id).Pairwise (·<·)):∀{ks:List Int} {id:Int} {es:List Edg} {p:Nat},ks.Nodup→(∀k∈ks,0≤k∧k<rs.length)→0≤id→Ul rs ks id es →
  Ul rs [] (id+9 * ks.length) (qU L rs ks id es p).1∧(qU L rs ks id es p).1.length≤es.length+ks.length
 | [],id,es,p,h1,h2,h0,h=>⟨⟨h.nd,h.at_,h.asc,λe he=>by have:=h.ids e he;simp;omega⟩,by simp[qU]⟩
 | k::ks,id,es,p,h1,h2,h0,h=>by
  have hk:=h2 k (by simp);have hn:=bq'.mp h1;have h9:=gf (l:=[1,1,1,2,7,9]) (a:=1) (b:=9) (by decide) (by decide) (aj L (ab L p));rw[qU]
  split
  ·obtain⟨a,b⟩:=tI hid (L:=L) (ks:=ks) (id:=id) (es:=es) (p:=ab L p) hn.2 (λx hx=>h2 x (by simp[hx])) h0 ⟨h.nd,λe he=>by
    obtain⟨j,r,q1,q2⟩:=h.at_ e he;exact⟨j,r,λq=>q1 (by simp[q]),q2⟩,h.asc,h.ids⟩
   exact⟨⟨a.nd,a.at_,a.asc,λe he=>by have:=a.ids e he;simp;omega⟩,by simp;omega⟩
  ·have hlt:k.toNat<rs.length:=by omega
   have hr:rs[k.toNat]?=some rs[k.toNat]:=E' hlt;have hg:rs.getD k.toNat ⟨0,false⟩=rs[k.toNat]:=by rw[J',hr];rfl
   rw[hg];generalize hq:id+ay [1,1,1,2,7,9] (aj L (ab L p))=id' at *
   obtain⟨a,b⟩:=tI hid (L:=L) (ks:=ks) (id:=id') (es:=es++[⟨rs[k.toNat].id,id'⟩]) (p:=ab L (ab L p)) hn.2 (λx hx=>h2 x (by simp[hx])) (by omega) (by
    refine⟨?_,λe he=>?_,?_,λe he=>?_⟩
    ·rw[List.map_append,List.nodup_append];refine⟨h.nd,by simp,λx hx y hy=>?_⟩;obtain⟨e,he,rfl⟩:=R'.mp hx;obtain⟨j,r,q1,q2,q3⟩:=h.at_ e he;have hy:y=rs[k.toNat].id:=by simpa using hy
     rintro rfl;have hj:=av q2;rw[E' hj]at q2;have q2:=ao' q2;have hne:j≠k.toNat:=λe'=>q1 (by subst e';rw[show((k.toNat:Nat):Int)=k by omega];simp);rw[ac']at hid;have e1:(rs.map Rtr.id)[j]'(by simpa using hj)=(rs.map Rtr.id)[k.toNat]'(by simpa using hlt):=by
      rw[cp',cp',q2,q3];exact hy
     rcases Nat.lt_or_gt_of_ne hne with c|c
     ·have:=hid j k.toNat (by simpa using hj) (by simpa using hlt) c;omega
     ·have:=hid k.toNat j (by simpa using hlt) (by simpa using hj) c;omega
    ·rcases L'.mp he with he|he
     ·obtain⟨j,r,q1,q2⟩:=h.at_ e he;exact⟨j,r,λq=>q1 (by simp[q]),q2⟩
     ·have he:e=⟨rs[k.toNat].id,id'⟩:=by simpa using he
      subst he;exact⟨k.toNat,_,by rw[show((k.toNat:Nat):Int)=k by omega];exact hn.1,hr,rfl⟩
    ·rw[List.map_append,af'];refine⟨h.asc,aI' _ _,λx hx y hy=>?_⟩;obtain⟨e,he,rfl⟩:=R'.mp hx;have:=h.ids e he;have hy:y=id':=by simpa using hy
     omega
    ·rcases L'.mp he with he|he
     ·have:=h.ids e he;omega
     ·have he:e=⟨rs[k.toNat].id,id'⟩:=by simpa using he
      subst he;exact⟨by show 1≤id';omega,ah' _⟩)
   refine⟨⟨a.nd,a.at_,a.asc,λe he=>by have:=a.ids e he;simp;omega⟩,?_⟩;simp at b ⊢;omega
structure Rs (t:Tpl) (p:Pln):Prop where
  nd:(p.es.map Edg.router).Nodup
  at_:∀e∈p.es,∃r∈t.rs,r.id=e.router
  asc:(p.es.map Edg.id).Pairwise (·<·)
  ids:∀e∈p.es,1≤e.id∧e.id≤9 * t.rs.length
  sub:0≤p.sub∧p.sub≤2
  len:p.len=8∨p.len=16∨p.len=32∨p.len=64∨p.len=0∧p.es=[]
  es:p.es.length≤t.rs.length
theorem Oq{L:List Int}{p:Nat}{t:Tpl}(hid:(t.rs.map Rtr.id).Pairwise (·<·)):Rs t (lU L p t).1:=by
 obtain⟨o1,o2⟩:=py (L:=L) (n:=(t.rs.length:Int)) (p:=ab L p) (by omega);have hl:(gi L (t.rs.length:Int) (ab L p)).1.length=t.rs.length:=by rw[vS];simp
 obtain⟨a,b⟩:=tI hid (L:=L) (ks:=(gi L (t.rs.length:Int) (ab L p)).1) (id:=0) (es:=[]) (p:=(gi L (t.rs.length:Int) (ab L p)).2) o1 o2 (by omega) ⟨by simp,by simp,by simp,by simp⟩;rw[hl]at a b;have h3:=bw (x:=aj L p) (show 1≤(3:Int) by omega);have h5:ay [8,8,16,32,64] (aj L (km L p t).2)∈([8,8,16,32,64]:List Int):=ij (by decide) _;have h5:ay [8,8,16,32,64] (aj L (km L p t).2)=8∨ay [8,8,16,32,64] (aj L (km L p t).2)=16∨ay [8,8,16,32,64] (aj L (km L p t).2)=32∨ay [8,8,16,32,64] (aj L (km L p t).2)=64:=by
  simp only[P',aq',or_false]at h5;omega
 have hes:(lU L p t).1.es=(km L p t).1:=by unfold lU;split<;>rfl
 have hsub:(lU L p t).1.sub=Mod (aj L p) 3:=by unfold lU;split<;>rfl
 have a:Ul t.rs [] (0+9 * t.rs.length) (km L p t).1:=a
 refine⟨hes ▸ a.nd,λe he=>?_,hes ▸ a.asc,λe he=>?_,by omega,?_,by rw[hes];have b:(km L p t).1.length≤0+t.rs.length:=b;omega⟩
 ·rw[hes]at he;obtain⟨j,r,_,q2,q3⟩:=a.at_ e he;exact⟨r,ax q2,q3⟩
 ·rw[hes]at he;have:=a.ids e he;omega
 ·unfold lU
  split
  ·show _=_∨_;rcases h5 with h|h|h|h<;>simp[h]
  ·rename_i c;right;right;right;right;exact⟨rfl,aH' (show(km L p t).1.length=0 by omega)⟩
structure Sit where
  router:Int
  now:Int
  list:List Mem
  deriving DecidableEq
structure Scn where
  rs:List Rtr
  ls:List Lnk
  sub:Int
  len:Int
  es:List Edg
  sites:List Sit
  sp:List Spk
  lsn:List Lsn
  fl:List Sig
def Sit.v(x:Sit):AV:=.agg [.int x.router,.int x.now,.sl 5 (x.list.map Mem.v) false]
def Scn.v(x:Scn):AV:=.agg [.sl 2 (x.rs.map Rtr.v) false,.sl 5 (x.ls.map Lnk.v) false,.int x.sub,.int x.len,.sl 2 (x.es.map Edg.v) false,.sl 3 (x.sites.map Sit.v) false,.sl 5 (x.sp.map Spk.v) false,.sl 3 (x.lsn.map Lsn.v) false,.sl 10 (x.fl.map Sig.v) false]
def HM(es:List Edg):List Int:=es.foldl (λout e=>put out e.router) []
def shM(d h:Int)(x:Mem):Mem:=⟨h+x.host,x.grp,x.mode,x.srcs,x.til+d⟩
def lL(L:List Int)(now:Int):List Int→List Sit→Nat→List Sit×Nat
 | [],out,p=>(out,p)
 | r::rs,out,p=>lL L now rs (out++[⟨r,now,(bx L 4 p).1.list.map (shM (now-(bx L 4 p).1.now) (10 * out.length))⟩]) (bx L 4 p).2
def jH(L:List Int)(b:Bool):Nat→Ovl×Nat→Ovl×Nat
 | 0,s=>s
 | n+1,s=>jH L b n (if b=true then gE L s.2 s.1 else s)
def kE(L:List Int)(x:Sit)(s:Ovl×Nat):Ovl×Nat:=
 if(ofW ⟨x.now,x.list⟩).2=0 then(if 0<Mod (aj L s.2) 6 then(orO s.1 (aS s.1 x.router (ofW ⟨x.now,x.list⟩).1),ab L s.2)else(s.1,ab L s.2))else s
def kD(L:List Int):List Sit→Ovl×Nat→Ovl×Nat
 | [],s=>s
 | x::xs,s=>kD L xs (kE L x s)
def ph(L:List Int):Nat→Ovl×Nat→Ovl×Nat
 | 0,s=>s
 | n+1,s=>ph L n ((roundO s.1 (bQ L s.1.fl.length s.2).1).1,(bQ L s.1.fl.length s.2).2)
def kK(L:List Int)(p:Nat)(most:Int):Pln×Nat:=lU L (bK L p most).2 (bK L p most).1
def cT(L:List Int)(p:Nat)(most:Int):List Int:=HM (kK L p most).1.es
def ow(L:List Int)(p:Nat)(most:Int):Int:=ay [0,100] (aj L (kK L p most).2)
def eu(L:List Int)(p:Nat)(most:Int):List Sit×Nat:=lL L (ow L p most) (cT L p most) [] (ab L (kK L p most).2)
def tu(L:List Int)(p:Nat)(most:Int):Ovl×Nat:=
 jH L (decide (0<(cT L p most).length)) (Mod (aj L (eu L p most).2) 4).toNat ((ez (cT L p most)).1,ab L (eu L p most).2)
def mR(L:List Int)(p:Nat)(most:Int):Ovl×Nat:=kD L (eu L p most).1 (tu L p most)
def za(L:List Int)(p:Nat)(most:Int):Ovl×Nat:=ph L (Mod (aj L (mR L p most).2) 4).toNat ((mR L p most).1,ab L (mR L p most).2)
def vw(L:List Int)(p:Nat)(most:Int):Scn×Nat:=
 (⟨(bK L p most).1.rs,(bK L p most).1.ls,(kK L p most).1.sub,(kK L p most).1.len,(kK L p most).1.es,(eu L p most).1,(za L p most).1.sp,(za L p most).1.ls,(za L p most).1.fl⟩,(za L p most).2)
theorem NM(es:List Edg):(HM es).Pairwise (·<·)∧(∀r,r∈HM es↔∃e∈es,e.router=r)∧(HM es).length≤es.length:=by
 have key:∀(l:List Edg) (s:List Int),jh s→jh (l.foldl (λout e=>put out e.router) s)∧(∀g,g∈l.foldl (λout e=>put out e.router) s↔g∈s∨∃x∈l,x.router=g)∧(l.foldl (λout e=>put out e.router) s).length≤s.length+l.length:=by
  intro l
  induction l with
  | nil=>intro s hs;exact⟨hs,λg=>by simp,by simp⟩
  | cons x l ih =>
   intro s hs;obtain⟨a,b,c⟩:=ih (put s x.router) (tE hs);have:=gb s x.router;refine⟨a,λg=>?_,by simp only[ax',Z'];omega⟩;rw[ax',b];have hp:g∈put s x.router↔g∈s∨g=x.router:=by
    refine⟨tD,λq=>?_⟩;unfold put
    split
    ·rename_i e
     rcases q with q|q
     ·exact q
     ·exact q ▸ ax e
    ·exact nh.mpr q.symm
   rw[hp]
   constructor
   ·rintro((q|q)|⟨y,q1,q2⟩)
    ·exact .inl q
    ·exact .inr ⟨x,by simp,q.symm⟩
    ·exact .inr ⟨y,by simp[q1],q2⟩
   ·rintro(q|⟨y,q1,q2⟩)
    ·exact .inl (.inl q)
    ·rcases P'.mp q1 with rfl|q1
     ·exact .inl (.inr q2.symm)
     ·exact .inr ⟨y,q1,q2⟩
 obtain⟨a,b,c⟩:=key es [] (lz.mpr List.Pairwise.nil);exact⟨lz.mp a,λg=>by rw[HM,b];simp,aG' c (by simp)⟩
structure jb (now:Int) (x:Sit):Prop where
  now_:x.now=now
  err:aZ ⟨x.now,x.list⟩=0
  grp:∀y∈x.list,1≤y.grp∧y.grp≤4
theorem RR{m:aK}{now d h:Int}(h1:∀x∈m.list,yu m.now x)(h2:m.list.Pairwise ct)(h3:m.list.length≤64)(hd:d=now-m.now)(hn:0≤now∧now≤1000000)(hh:0≤h∧h≤90) :
  aZ ⟨now,m.list.map (shM d h)⟩=0∧∀y∈m.list.map (shM d h),1≤y.grp∧y.grp≤4:=by
 refine⟨EP hn (by simpa using h3) (λx hx=>?_) (λx hx=>?_) (λx hx=>?_) ?_,λx hx=>?_⟩
 ·obtain⟨y,hy,rfl⟩:=R'.mp hx;have:=h1 y hy;have h4:=this.host;have h5:=this.grp;have h6:=this.til
  refine⟨⟨?_,?_⟩,⟨?_,?_⟩,?_,?_⟩<;>simp only[shM]<;>omega
 ·obtain⟨y,hy,rfl⟩:=R'.mp hx;exact(h1 y hy).flt
 ·obtain⟨y,hy,rfl⟩:=R'.mp hx;exact(h1 y hy).no
 ·rw[at'];refine h2.imp λ{a b} q=>?_;have q:lu a b.grp b.host=true:=q;show lu (shM d h a) (shM d h b).grp (shM d h b).host=true;simp only[lu,shM,bW',aK',decide_eq_true_eq,bT']at q ⊢
  rcases q with q|⟨q1,q2⟩
  ·exact .inl (decide_eq_true q)
  ·exact .inr ⟨q1,decide_eq_true (show h+a.host<h+b.host by omega)⟩
 ·obtain⟨y,hy,rfl⟩:=R'.mp hx;exact(h1 y hy).grp
theorem vq{L:List Int}{now:Int}(hn:0≤now∧now≤1000000):∀{rs:List Int} {out:List Sit} {p:Nat},out.length+rs.length≤10→(∀x∈out,jb now x) →
  (∀x∈(lL L now rs out p).1,jb now x)∧(lL L now rs out p).1.map Sit.router=out.map Sit.router++rs
 | [],out,p,hl,h=>⟨h,by simp[lL]⟩
 | r::rs,out,p,hl,h=>by
  obtain⟨m1,m2,m3,m4⟩:=we L (n:=4) p (by omega);simp only[Z']at hl;obtain⟨s1,s2⟩:=RR (now:=now) (d:=now-(bx L 4 p).1.now) (h:=10 * (out.length:Int)) m2 m3 (by omega) rfl hn (by omega);rw[lL];obtain⟨a,b⟩:=vq hn (L:=L) (rs:=rs) (out:=out++[⟨r,now,(bx L 4 p).1.list.map (shM (now-(bx L 4 p).1.now) (10 * out.length))⟩]) (p:=(bx L 4 p).2) (by simp;omega) (λx hx=>by
   rcases L'.mp hx with hx|hx
   ·exact h x hx
   ·have hx:x=⟨r,now,(bx L 4 p).1.list.map (shM (now-(bx L 4 p).1.now) (10 * out.length))⟩:=by simpa using hx
    subst hx;exact⟨rfl,s1,s2⟩)
  exact⟨a,by rw[b];simp⟩
section
variable {L : List Int} {p : Nat} {most : Int}
theorem BU(h:1≤most∧most≤8):Rs (bK L p most).1 (kK L p most).1:=Oq (oU (by omega)).2.1
theorem jS(h:1≤most∧most≤8):okR (cT L p most)∧(cT L p most).length≤8:=by
 obtain⟨t1,t2,t3⟩:=oU (L:=L) (p:=p) (most:=most) (by omega);have hp:=BU (L:=L) (p:=p) h;obtain⟨r1,r2,r3⟩:=NM (kK L p most).1.es;have:=hp.es;have hl:(cT L p most).length≤8:=by unfold cT;omega
 refine⟨⟨by omega,λr hr=>?_,r1⟩,hl⟩;obtain⟨e,he,rfl⟩:=(r2 r).mp hr;obtain⟨z,hz,q⟩:=hp.at_ e he;have:=t3 z hz;omega
theorem BV:0≤ow L p most∧ow L p most≤1000000:=by
 have:=gf (l:=[0,100]) (a:=0) (b:=100) (by decide) (by decide) (aj L (kK L p most).2);unfold ow;omega
theorem o8(h:1≤most∧most≤8):(∀x∈(eu L p most).1,jb (ow L p most) x)∧(eu L p most).1.map Sit.router=cT L p most:=by
 have:=(jS (L:=L) (p:=p) h).2;obtain⟨a,b⟩:=vq (L:=L) (BV (L:=L) (p:=p) (most:=most)) (rs:=cT L p most) (out:=[]) (p:=ab L (kK L p most).2) (by simp;omega) (by simp);exact⟨a,by rw[eu,b];rfl⟩
theorem pc(h:1≤most∧most≤8):(eu L p most).1.length≤8:=by
 have:=congrArg List.length (o8 (L:=L) (p:=p) h).2;rw[f']at this;have:=(jS (L:=L) (p:=p) h).2;omega
end
structure NI (R:List Int) (o:Ovl):Prop where
  net:bH R o.sp o.ls
  fl:∀x∈o.fl,cS R x
section
variable {R : List Int} {o : Ovl} {L : List Int}
theorem NI.ok(h:NI R o):bF o:=by
 have e:aC o.sp=R:=h.net.spr;exact⟨by rw[e];exact h.net,by rw[e];exact h.fl⟩
theorem NI.chg(h:NI R o){r:Int}{w:List Wnt}(hc:(aS o r w).2=0):NI R (aS o r w).1∧(aS o r w).1.fl=o.fl:=by
 have e0:aC o.sp=R:=h.net.spr;unfold aS at hc ⊢;rw[u' (not_not_intro h.ok)]at hc ⊢
 by_cases h1:r ∉ aC o.sp
 ·rw[if_pos h1]at hc;simp at hc
 rw[u' h1]at hc ⊢
 by_cases h2:aI false w≠0
 ·rw[if_pos h2]at hc;exact absurd hc h2
 rw[u' h2]at hc ⊢
 by_cases h3:(ah (aq (atS o.sp r).items) w).2≠0
 ·rw[if_pos h3]at hc;exact absurd hc h3
 rw[u' h3]at hc ⊢
 by_cases h4:(change (atS o.sp r) (ah (aq (atS o.sp r).items) w).1).2≠0
 ·rw[if_pos h4]at hc;exact absurd hc h4
 rw[u' h4];have hr:r∈R:=by rw[←e0];exact X'.mp h1
 have h4:=X'.mp h4;obtain⟨q1,q2⟩:=h.net.s hr;obtain⟨k1,k2⟩:=h.net.spo _ q1;obtain⟨_,f2,f3,f4⟩:=iS h4;have hok:=iT h4;generalize hz:(change (atS o.sp r) (ah (aq (atS o.sp r).items) w).1).1=z at *
 have hz1:z.router=(atS o.sp r).router∧z.peers=(atS o.sp r).peers:=by rw[←hz,f4];exact⟨rfl,rfl⟩
 have s:=h.net.setS hr (z:=z) (by rw[hz1.1];exact q2) ⟨hok,by rw[hz1.1,hz1.2];exact k2⟩;exact⟨⟨s.net,h.fl⟩,rfl⟩
theorem NI.rst(h:NI R o){r:Int}{w:List Wnt}(hc:(bE o r w).2=0):NI R (bE o r w).1∧(bE o r w).1.fl=o.fl:=by
 have e0:aC o.sp=R:=h.net.spr;unfold bE at hc ⊢;rw[u' (not_not_intro h.ok)]at hc ⊢
 by_cases h1:r ∉ aC o.sp
 ·rw[if_pos h1]at hc;simp at hc
 rw[u' h1]at hc ⊢
 by_cases h3:(restart (atS o.sp r) w).2≠0
 ·rw[if_pos h3]at hc;exact absurd hc h3
 rw[u' h3]at hc ⊢
 by_cases h4:(atL o.sp o.ls r).epoch=1000000
 ·rw[if_pos h4]at hc;simp at hc
 rw[u' h4];have hr:r∈R:=by rw[←e0];exact X'.mp h1
 have h3:=X'.mp h3;obtain⟨q1,q2⟩:=h.net.s hr;obtain⟨k1,k2⟩:=h.net.spo _ q1;obtain⟨m1,m2⟩:=h.net.l hr;obtain⟨n1,n2⟩:=h.net.lso _ m1;obtain⟨_,f2,f3,f4⟩:=jr h3;have hok:=kA h3;generalize hz:(restart (atS o.sp r) w).1=z at *
 have hz1:z=⟨r,(atS o.sp r).epoch+1,w.length,w.mapIdx fC,(atS o.sp r).peers.map λp=>⟨p.router,0,0⟩⟩:=by
  rw[←hz,f4,q2]
 have s:=h.net.setS hr (z:=z) (by rw[hz1]) ⟨hok,by rw[hz1];rw[q2]at k2;exact(aV' ..).trans k2⟩;have t:=s.net.setL hr (z:=⟨r,(atL o.sp o.ls r).epoch+1,[]⟩) rfl ⟨⟨by have:=n1.1;rw[m2]at this;exact this,⟨by have:=n1.2.1;simp only;omega,by have:=n1.2.1;simp only;omega⟩,by simp,by simp,by simp⟩,by simp⟩;rw[s.pos r]at t;exact⟨⟨t.1,h.fl⟩,rfl⟩
theorem NI.round(h:NI R o)(f:List Fau):(roundO o f).2=0∧NI R (roundO o f).1∧(roundO o f).1.fl.length≤o.fl.length+f.length+14400:=by
 unfold roundO;rw[u' (not_not_intro h.ok)];obtain⟨h1,h2⟩:=uE (P:=λx=>x∈o.fl) (l:=o.fl) (f:=f) λx hx=>hx;have r:=rF h.net (λx hx=>h.fl x (h1 x hx)) (λx hx=>h.fl x (h2 x hx));refine⟨rfl,⟨r.net,r.fl⟩,?_⟩;have hs:=rv r.net;have hd:=fO (l:=(arr o.fl f).1) (s:=((o.sp,o.ls),(arr o.fl f).2));have ha:=uF (l:=o.fl) (f:=f);unfold eY at hs ⊢;simp only[Y']at *
 omega
theorem NI.or{x:Ovl×Int}{B:Nat}(h:NI R o)(hb:o.fl.length≤B)(hx:x.2=0→NI R x.1∧x.1.fl.length≤B):NI R (orO o x)∧(orO o x).fl.length≤B:=by
 unfold orO
 by_cases e:x.2≠0
 ·rw[if_pos e];exact⟨h,hb⟩
 ·rw[u' e];exact hx (X'.mp e)
theorem NI.act(h:NI R o){p:Nat}:NI R (gE L p o).1∧(gE L p o).1.fl.length≤o.fl.length+14440:=by
 unfold gE
 split
 ·exact h.or (by omega) λq=>⟨(h.chg q).1,by rw[(h.chg q).2];omega⟩
 split
 ·exact h.or (by omega) λq=>⟨(h.rst q).1,by rw[(h.rst q).2];omega⟩
 split
 ·exact h.or (by omega) λq=>by
   have k:=(h.round (dT L (min o.fl.length 40) (ab L (ab L p))).1).2;have:=kV (L:=L) (n:=min o.fl.length 40) (p:=ab L (ab L p));exact⟨k.1,by have:=k.2;omega⟩
 ·exact h.or (by omega) λq=>by
   have k:=(h.round (bQ L o.fl.length (ab L (ab L p))).1).2;have:=eF (L:=L) (n:=o.fl.length) (p:=ab L (ab L p));exact⟨k.1,by have:=k.2;omega⟩
theorem NI.new{l:List Int}(h:okR l):NI l (eC l):=⟨ik h,by simp[eC]⟩
end
def NIB(R:List Int)(o:Ovl)(B:Nat):Prop:=NI R o∧o.fl.length≤B
theorem NIB.more{R:List Int}{o:Ovl}{B B':Nat}(h:NIB R o B)(hB:B≤B'):NIB R o B':=⟨h.1,aG' h.2 hB⟩
theorem NIB.or{R:List Int}{o:Ovl}{B:Nat}{x:Ovl×Int}(h:NIB R o B)(hx:x.2=0→NIB R x.1 B):NIB R (orO o x) B:=by
 unfold orO
 by_cases e:x.2≠0
 ·rw[if_pos e];exact h
 ·rw[u' e];exact hx (X'.mp e)
theorem NIB.round{R:List Int}{o:Ovl}{B:Nat}(h:NIB R o B)(f:List Fau):(roundO o f).2=0∧NIB R (roundO o f).1 (B+f.length+14400):=by
 obtain⟨a,b,c⟩:=h.1.round f;have:=h.2;exact⟨a,b,by omega⟩
theorem NIB.act{R:List Int}{o:Ovl}{B:Nat}{L:List Int}{p:Nat}(h:NIB R o B):NIB R (gE L p o).1 (B+14440):=by
 obtain⟨a,b⟩:=h.1.act (L:=L) (p:=p);have:=h.2;exact⟨a,by omega⟩
theorem yq{R:List Int}{L:List Int}{b:Bool}:∀{n:Nat} {s:Ovl×Nat} {B:Nat},NIB R s.1 B→NIB R (jH L b n s).1 (B+14440 * n)
 | 0,s,B,h=>h.more (by omega)
 | n+1,s,B,h=>by
  rw[jH];have:NIB R (if b=true then gE L s.2 s.1 else s).1 (B+14440):=by
   split
   ·exact h.act
   ·exact h.more (by omega)
  exact(yq (n:=n) this).more (by omega)
theorem xT{R:List Int}{L:List Int}{x:Sit}{s:Ovl×Nat}{B:Nat}(h:NIB R s.1 B):NIB R (kE L x s).1 B:=by
 unfold kE
 split
 ·split
  ·exact h.or λq=>by
    obtain⟨a,b⟩:=h.1.chg q;exact⟨a,by rw[b];exact h.2⟩
  ·exact h
 ·exact h
theorem xR{R:List Int}{L:List Int}:∀{l:List Sit} {s:Ovl×Nat} {B:Nat},NIB R s.1 B→NIB R (kD L l s).1 B
 | [],s,B,h=>h
 | x::l,s,B,h=>by
  rw[kD];exact xR (xT h)
section
variable {L : List Int} {p : Nat} {most : Int}
theorem S5(x:Int):(Mod x 4).toNat≤3:=by
 obtain⟨h1,h2⟩:=bw (x:=x) (n:=4) (by decide);generalize Mod x 4=y at *
 omega
theorem BW(h:1≤most∧most≤8):NIB (cT L p most) (ez (cT L p most)).1 0:=by
 have hr:=(jS (L:=L) (p:=p) h).1;rw[ez,if_pos hr];exact⟨NI.new hr,by simp[eC]⟩
theorem N6(h:1≤most∧most≤8):NIB (cT L p most) (tu L p most).1 43320:=by
 have z:=BW (L:=L) (p:=p) h;have h4:=S5 (aj L (eu L p most).2);unfold tu;generalize (ez (cT L p most)).1=o0 at z ⊢;generalize (Mod (aj L (eu L p most).2) 4).toNat=n at h4 ⊢;exact(yq (L:=L) (b:=decide (0<(cT L p most).length)) (n:=n) (s:=(o0,ab L (eu L p most).2)) z).more (by omega)
theorem N4(h:1≤most∧most≤8):NIB (cT L p most) (mR L p most).1 43320:=by
 have z:=N6 (L:=L) (p:=p) h;unfold mR;generalize tu L p most=A at z ⊢;exact xR (L:=L) z
end
theorem mL{s:Spk}:dd s=0↔aV s:=by
 have hv:dd s=if aV s then 0 else 1:=rfl
 rw[hv];by_cases h:aV s<;>simp[h]
theorem sX{s:Lsn}:gB s=0↔bX s:=by
 have hv:gB s=if bX s then 0 else 1:=rfl
 rw[hv];by_cases h:bX s<;>simp[h]
theorem vQ{o:Ovl}(ok:okL [o.v]):o.sp.length≤9223372036854775807∧o.ls.length≤9223372036854775807∧o.fl.length≤9223372036854775807:=by
 have h:=ok;simp only[Ovl.v,yQ,zF,yY,AV.ok,okL,f',cm]at h;omega
theorem jk{α:Type}{P:α→Prop}{l:List α}{k:Nat}{x:α}(hx:l[k]?=some x)(h:∀y∈l.take k,P y)(hp:P x):∀y∈l.take (k+1),P y:=(bG hx).mpr ⟨h,hp⟩
def vj(o:Ovl):=okL [Ovl.v o]
def Ex(o:Ovl)(t0:Bool):NF:=⟨[rR 1 0,rB 23 t0],[.box (Ovl.v o)]⟩
def Ew(o:Ovl)(t1:Int):NF:=⟨[rR 1 0,(3,.k,.sl 1 ((aC o.sp).map AV.int) false),(27,.k,.sl 5 (o.sp.map Spk.v) false),rI 28 ((o.sp.map Spk.v).length:Int),rI 29 t1],[.box (Ovl.v o)]⟩
def Ev(o:Ovl)(t1:Int)(x2:Spk)(t2:Bool):NF:=⟨[rR 1 0,(3,.k,.sl 1 ((aC o.sp).map AV.int) false),rI 4 t1,rR 5 1,(27,.k,.sl 5 (o.sp.map Spk.v) false),rI 28 ((o.sp.map Spk.v).length:Int),rI 29 t1,rB 50 t2],[.box (Ovl.v o),.box (Spk.v x2)]⟩
def Eu(o:Ovl)(t1:Int)(x5:Lsn)(t3:Bool):NF:=⟨[rR 1 0,(3,.k,.sl 1 ((aC o.sp).map AV.int) false),rR 6 1,(27,.k,.sl 5 (o.sp.map Spk.v) false),rI 28 ((o.sp.map Spk.v).length:Int),rI 29 t1,rB 73 t3],[.box (Ovl.v o),.box (Lsn.v x5)]⟩
def Et(o:Ovl)(t1:Int)(x5:Lsn)(t4:Int):NF:=⟨[rR 1 0,(3,.k,.sl 1 ((aC o.sp).map AV.int) false),(27,.k,.sl 5 (o.sp.map Spk.v) false),rI 28 ((o.sp.map Spk.v).length:Int),rI 29 t1,(75,.k,.sl 4 (x5.heard.map Hrd.v) false),rI 76 ((x5.heard.map Hrd.v).length:Int),rI 77 t4],[.box (Ovl.v o)]⟩
def Es(o:Ovl)(t5:Int):NF:=⟨[(3,.k,.sl 1 ((aC o.sp).map AV.int) false),(89,.k,.sl 10 (o.fl.map Sig.v) false),rI 90 ((o.fl.map Sig.v).length:Int),rI 91 t5],[]⟩
def Er(o:Ovl)(t5:Int)(t6:Bool):NF:=⟨[(3,.k,.sl 1 ((aC o.sp).map AV.int) false),(89,.k,.sl 10 (o.fl.map Sig.v) false),rI 90 ((o.fl.map Sig.v).length:Int),rI 91 t5,rB 111 t6],[]⟩
@[reducible] def ve:Nat→Type
 | 0=>Bool
 | 1=>Int
 | 2=>Bool
 | 3=>Bool
 | 4=>Int
 | 5=>Int
 | 6=>Bool
 | _=>Unit
def vg(r:Bool):AV:=.bool r
def vd(o:Ovl)(I0:Bool→Prop)(I1:Bool→Int→Prop)(m1:Bool→Int→Nat)(I2:Bool→Int→Spk→Bool→Prop)(I3:Bool→Int→Spk→Bool→Lsn→Bool→Prop)(I4:Bool→Int→Spk→Bool→Lsn→Bool→Int→Prop)(m4:Bool→Int→Spk→Bool→Lsn→Bool→Int→Nat)(I5:Bool→Int→Int→Prop)(m5:Bool→Int→Int→Nat)(I6:Bool→Int→Int→Sig→Bool→Prop):Ax Tryz.prog ve (Bool):=
 (.pass (.pass (.join 0 (Ex o) (λ(t0:Bool)=>I0 t0) (λb0=>(.br 112 (decide (12<((o.sp.map Spk.v).length:Int))) (.bk 0 b0 ((true):Bool) [0])
(.bk 0 b0 ((((o.ls.map Lsn.v).length:Int) != ((o.sp.map Spk.v).length:Int)):Bool) [0]))) λ(t0:Bool) =>
(.br 1 t0 (.ret (false))
(.req 17 (o.sp.length≤1000000) λh1 =>
(.callP (NO o h1)
(.loop 1 (Ew o) (I1 t0) (m1 t0) ((0):Int) [0] λ(t1:Int) b1 =>
(.br 17 (decide (t1<((o.sp.map Spk.v).length:Int))) (.elI 33 Spk.v o.sp t1 λx2 =>
(.pass (.join 2 (Ev o t1 x2) (λ(t2:Bool)=>I2 t0 t1 x2 t2) (λb2=>(.callP (Gv x2)
(.br 177 ((dd x2) != 0) (.bk 2 b2 ((true):Bool) [0,65])
(.br 225 (decide (0<t1)) (.elI 273 AV.int (aC o.sp) (W (t1-1)) λx3 =>
(.bk 2 b2 ((decide (x2.router≤x3)):Bool) [0,65]))
(.bk 2 b2 ((false):Bool) [0,65]))))) λ(t2:Bool) =>
(.br 2 t2 (.ret (false))
(.req 82 ((aC o.sp).length≤1000000) λh4 =>
(.callP (EG (aC o.sp) x2.router h4)
(.callP (Tl x2.peers (dj (aC o.sp) x2.router))
(.br 130 (!(decide (x2.peers.map Per.router=(dj (aC o.sp) x2.router)))) (.ret (false))
(.elI 178 Lsn.v o.ls t1 λx5 =>
(.pass (.join 3 (Eu o t1 x5) (λ(t3:Bool)=>I3 t0 t1 x2 t2 x5 t3) (λb3=>(.callP (GM x5)
(.br 306 ((gB x5) != 0) (.bk 3 b3 ((true):Bool) [0,210])
(.bk 3 b3 ((x5.router != x2.router):Bool) [0,210])))) λ(t3:Bool) =>
(.br 2 t3 (.ret (false))
(.loop 4 (Et o t1 x5) (I4 t0 t1 x2 t2 x5 t3) (m4 t0 t1 x2 t2 x5 t3) ((0):Int) [0] λ(t4:Int) b4 =>
(.br 17 (decide (t4<((x5.heard.map Hrd.v).length:Int))) (.elI 17 Hrd.v x5.heard t4 λx6 =>
(.callP (oJ (aC o.sp) x6.router)
(.br 161 (!(decide (x6.router∈(aC o.sp)))) (.ret (false))
(.bk 4 b4 ((W (t4+1)):Int) [0]))))
(.bk 1 b1 ((W (t1+1)):Int) [0])))))))))))))))
(.loop 5 (Es o) (I5 t0 t1) (m5 t0 t1) ((0):Int) [] λ(t5:Int) b5 =>
(.br 16 (decide (t5<((o.fl.map Sig.v).length:Int))) (.elI 16 Sig.v o.fl t5 λx7 =>
(.join 6 (Er o t5) (λ(t6:Bool)=>I6 t0 t1 t5 x7 t6) (λb6=>(.callP (RQ x7)
(.br 144 ((aF x7) != 0) (.bk 6 b6 ((true):Bool) [])
(.callP (oJ (aC o.sp) x7.src)
(.br 256 (!(decide (x7.src∈(aC o.sp)))) (.bk 6 b6 ((true):Bool) [])
(.callP (oJ (aC o.sp) x7.dst)
(.bk 6 b6 ((!(decide (x7.dst∈(aC o.sp)))):Bool) []))))))) λ(t6:Bool) =>
(.br 0 t6 (.ret (false))
(.bk 5 b5 ((W (t5+1)):Int) []))))
(.ret (true))))))))))))
theorem Gq(o:Ovl)(ok:vj o):∃I0 I1 m1 I2 I3 I4 m4 I5 m5 I6,(vd o I0 I1 m1 I2 I3 I4 m4 I5 m5 I6).vp vg (decide (bF o)):=by
 unfold vj at ok;obtain⟨l1,l2,l3⟩:=vQ ok
 refine⟨λt=>t=false↔(o.sp.length≤12∧o.ls.length=o.sp.length),
  λ_ t=>∃k:Nat,t=k∧k≤o.sp.length∧∀i s l,i<k→o.sp[i]?=some s→o.ls[i]?=some l→AtK (aC o.sp) i s l,λ_ t=>o.sp.length-t.toNat,
  λ_ t1 x t=>t=false↔(aV x∧(0<t1.toNat→∀y,(aC o.sp)[t1.toNat-1]?=some y→y<x.router)),
  λ_ _ x _ y t=>t=false↔(bX y∧y.router=x.router),
  λ_ _ _ _ y _ t=>∃k:Nat,t=k∧k≤y.heard.length∧∀h∈y.heard.take k,h.router∈aC o.sp,λ_ _ _ _ y _ t=>y.heard.length-t.toNat,
  λ_ _ t=>∃k:Nat,t=k∧k≤o.fl.length∧∀x∈o.fl.take k,cS (aC o.sp) x,λ_ _ t=>o.fl.length-t.toNat,
  λ_ _ _ x t=>t=false↔cS (aC o.sp) x,?_⟩
 dsimp only[vd,ve,Ax.vp,Ax.vc];simp only[vcU,rfU,f']
 refine⟨⟨λh1=>by simp;omega,λh1=>?_⟩,?_⟩
 ·simp;omega
 intro t0 h0
 refine⟨λe=>?_,λe=>?_⟩
 ·subst e;exact ed λq=>by have:=h0.mpr ⟨(dK.mp q).1,(dK.mp q).2.1⟩;simp at this
 obtain⟨n1,n2⟩:=h0.mp e;have hR:(aC o.sp).length=o.sp.length:=fm;refine⟨by omega,⟨0,rfl,by omega,λi s l hi=>by omega⟩,?_⟩;rintro _ ⟨k,rfl,hk,hI⟩;simp only[Int.toNat_natCast]
 refine⟨λh1=>⟨by omega,by omega,λx hx=>⟨⟨λa1=>?_,λa1=>⟨λa2=>⟨?_,?_,λy hy=>?_⟩,λa2=>?_⟩⟩,?_⟩⟩,λh1=>⟨⟨0,rfl,by omega,by simp⟩,?_⟩⟩
 ·have a1:¬dd x=0:=by simpa using a1
  rw[mL]at a1;simp[a1]
 ·rw[ci (by omega)];omega
 ·rw[ci (by omega)];omega
 ·have a1:dd x=0:=by simpa using a1
  have e3:(W ((k:Int)-1)).toNat=k-1:=by rw[ci (by omega)];omega
  rw[e3]at hy;rw[mL]at a1;rw[hy];simp only[aL',forall_eq'];exact⟨λq=>⟨a1,λ_=>by omega⟩,λq=>by have:=q.2 (by omega);omega⟩
 ·have a1:dd x=0:=by simpa using a1
  rw[mL]at a1;simp only[true_iff];exact⟨a1,λq=>by omega⟩
 ·intro t2 h2
  refine⟨λe=>?_,λe=>⟨by omega,λa1=>?_,λa1=>⟨by omega,by omega,λy hy=>⟨⟨λb1=>?_,λb1=>?_⟩,?_⟩⟩⟩⟩
  ·subst e;exact ed λq=>by
    obtain⟨l,hl⟩:∃l,o.ls[k]?=some l:=⟨_,E' (by omega)⟩
    have d:=(dK.mp q).2.2.1 k x l hx hl;have:=h2.mpr ⟨d.fs,d.fasc⟩;simp at this
  ·have a1:¬x.peers.map Per.router=dj (aC o.sp) x.router:=by simpa using a1
   exact ed λq=>by
    obtain⟨l,hl⟩:∃l,o.ls[k]?=some l:=⟨_,E' (by omega)⟩
    exact a1 ((dK.mp q).2.2.1 k x l hx hl).fp
  ·have b1:¬gB y=0:=by simpa using b1
   rw[sX]at b1;simp[b1]
  ·have b1:gB y=0:=by simpa using b1
   rw[sX]at b1;simp[b1]
  ·have a1:x.peers.map Per.router=dj (aC o.sp) x.router:=by simpa using a1
   intro t3 h3
   refine⟨λe3=>?_,λe3=>⟨⟨0,rfl,by omega,by simp⟩,?_⟩⟩
   ·subst e3;exact ed λq=>by
     have d:=(dK.mp q).2.2.1 k x y hx hy;have:=h3.mpr ⟨d.fl,d.fr⟩;simp at this
   obtain⟨d1,d2⟩:=h2.mp e;obtain⟨d3,d4⟩:=h3.mp e3;have hh:=d3.2.2.1;rintro _ ⟨j,rfl,hj,hJ⟩;simp only[Int.toNat_natCast]
   refine⟨λc1=>⟨by omega,by omega,λz hz=>⟨λc2=>?_,λc2=>?_⟩⟩,λc1=>?_⟩
   ·have c2:¬z.router∈aC o.sp:=by simpa using c2
    exact ed λq=>c2 (((dK.mp q).2.2.1 k x y hx hy).fh z (ax hz))
   ·rw[am (n:=y.heard.length) (by omega) (by omega)];exact⟨⟨j+1,rfl,by omega,jk hz hJ (by simpa using c2)⟩,by omega⟩
   ·rw[am (n:=o.sp.length) (by omega) (by omega)];have hj:j=y.heard.length:=by omega
    rw[hj,ai']at hJ;refine⟨⟨k+1,rfl,by omega,λi s l hi hs hl=>?_⟩,by omega⟩
    by_cases ei:i=k
    ·subst ei;rw[hx]at hs;rw[hy]at hl;cases hs;cases hl;exact⟨d1,d2,a1,d3,d4,hJ⟩
    ·exact hI i s l (by omega) hs hl
 ·have hk:k=o.sp.length:=by omega
  rintro _ ⟨j,rfl,hj,hJ⟩;simp only[Int.toNat_natCast]
  refine⟨λc1=>⟨by omega,by omega,λx hx=>⟨⟨λa1=>?_,λa1=>⟨λa2=>?_,λa2=>?_⟩⟩,?_⟩⟩,λc1=>?_⟩
  ·have a1:¬aF x=0:=by simpa using a1
   simp[cS,a1]
  ·have a2:¬x.src∈aC o.sp:=by simpa using a2
   simp[cS,a2]
  ·have a1:aF x=0:=by simpa using a1
   have a2:x.src∈aC o.sp:=by simpa using a2
   simp[cS,a1,a2]
  ·intro t6 h6
   refine⟨λe=>?_,λe=>?_⟩
   ·subst e;exact ed λq=>by have:=h6.mpr ((dK.mp q).2.2.2 x (ax hx));simp at this
   ·rw[am (n:=o.fl.length) (by omega) (by omega)];exact⟨⟨j+1,rfl,by omega,jk hx hJ (h6.mp e)⟩,by omega⟩
  ·have hj:j=o.fl.length:=by omega
   rw[hj,ai']at hJ;refine(decide_eq_true (dK.mpr ⟨n1,n2,λi s l hs hl=>hI i s l (by have:=av hs;omega) hs hl,hJ⟩)).symm
def vh(o:Ovl):PC Tryz.prog:=pcO 146 [(.a [(.s 5),(.s 3),(.s 10)])] [Ovl.v o] .k vg (decide (bF o)) (λok=>let ⟨I0,I1,m1,I2,I3,I4,m4,I5,m5,I6,h⟩:=Gq o ok;⟨_,h,by kernel_rfl⟩) rfl (by kernel_rfl)
def gZ(o:Ovl):Int:=if bF o then 0 else 1
def CF(s:Spk):Prop:=fF s.items∧s.peers.length≤1000000
def CG(l:Lsn):Prop:=l.heard.length≤1000000∧∀h∈l.heard,fF h.items
def tL(l:List Sig):Prop:=l.length≤1000000∧∀x∈l,x.srcs.length≤1000000
theorem Dk{n:Int}{l:List Itm}(h:aH n l):fF l:=
 ⟨by have:=Br h;omega,λx hx=>by have:=hZ (h.1 x hx).2.2;omega⟩
theorem RJ{s:Spk}(h:aV s):CF s:=⟨Dk h.2.2.2.1,by have:=h.2.2.2.2.1;omega⟩
theorem SA{l:Lsn}(h:bX l):CG l:=⟨by have:=h.2.2.1;omega,λx hx=>Dk (h.2.2.2.1 x hx).2.2.2.2⟩
theorem vr{x:Sig}(h:aF x=0):x.srcs.length≤1000000:=by
 unfold aF at h
 split at h
 ·omega
 split at h
 ·omega
 split at h
 ·have:=hZ h;omega
 ·split at h
  ·omega
  ·rename_i q;have:x.srcs=[]:=by
    by_cases e:x.srcs=[]
    ·exact e
    ·exact absurd (.inr e) q
   rw[this];simp
theorem pb{α:Type}{l:List α}{k:Nat}{x:α}(h:l[k]?=some x):l.set k x=l:=by
 obtain⟨hk,e⟩:=I'.mp h;rw[←e];exact List.set_getElem_self hk
def qo(r:List Itm):AV:=.vec 0
def qp(r:List Itm):List (Option Blk):=[some (.vec 4 (r.map Itm.v))]
def qn(s:List Itm):Ax Tryz.prog noS ((List Itm)):=
 (.allB (λb1=>((s.map Itm.v)≠[]→b1=false)) λb1 =>
(.br 48 (b1 != false) (.cmdL (.nilT 2 4) (.retH [] ⟨[rV 2 0],[.vec 4 [] rfl]⟩ [64]))
(.apX 80 Itm.v [] s (0+s.length)
(.retH s ⟨[rV 2 0],[vB 4 Itm.v s (λ_=>rfl)]⟩ [80]))))
theorem Lh(s:List Itm)(h:s.length≤1000000):(qn s).vc qo qp s:=by
 dsimp only[qn,noS,Ax.vp,Ax.vc];simp only[vcU,rfU,f'];intro b hb;refine⟨λh1=>?_,λ_=>by first|omega|exact⟨by omega,trivial⟩|simpa using h⟩;cases s with
 | nil=>rfl
 | cons x s=>simp at hb;simp[hb]at h1
def Li(s:List Itm)(h:s.length≤1000000):HC Tryz.prog:=hcO 388 [(.s 4)] [.sl 4 (s.map Itm.v) false] [] .k qo qp s (λ_ _=>⟨(qn s),Lh s h,by kernel_rfl⟩) (by kernel_rfl) (by simp[hcB,bI,AV.belB,allB,cE,bW,qo,qp,ae (v:=Itm.v) (λ_=>rfl)])
def qx(r:List Hrd):AV:=.vec 0
def qy(r:List Hrd):List (Option Blk):=[some (.vec 4 (r.map Hrd.v))]
def qw(s:List Hrd):Ax Tryz.prog noS ((List Hrd)):=
 (.allB (λb1=>((s.map Hrd.v)≠[]→b1=false)) λb1 =>
(.br 48 (b1 != false) (.cmdL (.nilT 2 4) (.retH [] ⟨[rV 2 0],[.vec 4 [] rfl]⟩ [64]))
(.apX 80 Hrd.v [] s (0+s.length)
(.retH s ⟨[rV 2 0],[vB 4 Hrd.v s (λ_=>rfl)]⟩ [80]))))
theorem Ll(s:List Hrd)(h:s.length≤1000000):(qw s).vc qx qy s:=by
 dsimp only[qw,noS,Ax.vp,Ax.vc];simp only[vcU,rfU,f'];intro b hb;refine⟨λh1=>?_,λ_=>by first|omega|exact⟨by omega,trivial⟩|simpa using h⟩;cases s with
 | nil=>rfl
 | cons x s=>simp at hb;simp[hb]at h1
def Lm(s:List Hrd)(h:s.length≤1000000):HC Tryz.prog:=hcO 337 [(.s 4)] [.sl 4 (s.map Hrd.v) false] [] .k qx qy s (λ_ _=>⟨(qw s),Ll s h,by kernel_rfl⟩) (by kernel_rfl) (by simp[hcB,bI,AV.belB,allB,cE,bW,qx,qy,ae (v:=Hrd.v) (λ_=>rfl)])
def q9(r:List Sig):AV:=.vec 0
def qA(r:List Sig):List (Option Blk):=[some (.vec 10 (r.map Sig.v))]
def qz(s:List Sig):Ax Tryz.prog noS ((List Sig)):=
 (.allB (λb1=>((s.map Sig.v)≠[]→b1=false)) λb1 =>
(.br 48 (b1 != false) (.cmdL (.nilT 2 10) (.retH [] ⟨[rV 2 0],[.vec 10 [] rfl]⟩ [64]))
(.apX 80 Sig.v [] s (0+s.length)
(.retH s ⟨[rV 2 0],[vB 10 Sig.v s (λ_=>rfl)]⟩ [80]))))
theorem Ln(s:List Sig)(h:s.length≤1000000):(qz s).vc q9 qA s:=by
 dsimp only[qz,noS,Ax.vp,Ax.vc];simp only[vcU,rfU,f'];intro b hb;refine⟨λh1=>?_,λ_=>by first|omega|exact⟨by omega,trivial⟩|simpa using h⟩;cases s with
 | nil=>rfl
 | cons x s=>simp at hb;simp[hb]at h1
def Lo(s:List Sig)(h:s.length≤1000000):HC Tryz.prog:=hcO 335 [(.s 10)] [.sl 10 (s.map Sig.v) false] [] .k q9 qA s (λ_ _=>⟨(qz s),Ln s h,by kernel_rfl⟩) (by kernel_rfl) (by simp[hcB,bI,AV.belB,allB,cE,bW,q9,qA,ae (v:=Sig.v) (λ_=>rfl)])
def EW(l:List Itm)(t0:Int×List Itm):NF:=⟨[rV 0 0,rI 7 ((l.map Itm.v).length:Int),rI 8 t0.1],[vB 4 Itm.v t0.2 (λ_=>rfl)]⟩
@[reducible] def wD:Nat→Type
 | 0=>Int×List Itm
 | _=>Unit
def wE(r:List Itm):AV:=.sl 4 (r.map Itm.v) false
def wC(l:List Itm)(I0:(Int×List Itm)→Prop)(m0:(Int×List Itm)→Nat):Ax Tryz.prog wD ((List Itm)):=
 (.req 32 (l.length≤1000000) λh1 =>
(.callH [] (Li l h1) 32
(.loop 0 (EW l) I0 m0 (0,l) [32] λ(t0:Int×List Itm) b0 =>
(.br 17 (decide (t0.1<((l.map Itm.v).length:Int))) (.elJ 161 Itm.v t0.2 t0.1 λx2 =>
(.req 177 (x2.srcs.length≤1000000) λh3 =>
(.callP (mA x2.srcs h3)
(.stJ 241 Itm.v t0.2 t0.1 (λy4=>(⟨y4.ver,y4.grp,y4.mode,x2.srcs⟩:Itm)) λy4 =>
(.bk 0 b0 (W (t0.1+1),t0.2.set t0.1.toNat (⟨y4.ver,y4.grp,y4.mode,x2.srcs⟩:Itm)) [0])))))
(.fz 0 Itm.v t0.2 (λ_=>rfl) (.ret (t0.2)))))))
theorem J9(l:List Itm)(h:fF l):∃I m,(wC l I m).vp wE l:=by
 obtain⟨h1,h2⟩:=h;refine⟨λt=>∃k:Nat,t=((k:Int),l)∧k≤l.length,λt=>l.length-t.1.toNat,?_⟩;dsimp only[wC,wD,Ax.vp,Ax.vc];simp only[vcU,rfU,f'];refine⟨by omega,⟨0,rfl,by omega⟩,?_⟩;rintro _ ⟨k,rfl,hk⟩;simp only[Int.toNat_natCast];refine⟨λh3=>⟨by simp;omega,by omega,λx hx=>⟨h2 x (ax hx),by simp;omega,by omega,λy hy=>?_⟩⟩,λ_=>trivial⟩;cases hx.symm.trans hy;rw[am (n:=l.length) (by omega) (by omega)];refine⟨⟨k+1,?_,by omega⟩,by omega⟩;exact congrArg _ (pb hx)
def wF(l:List Itm)(h:fF l):PC Tryz.prog:=pcO 336 [(.s 4)] [.sl 4 (l.map Itm.v) false] (.s 4) wE l (λ_=>let ⟨I0,m0,h⟩:=J9 l h;⟨_,h,by kernel_rfl⟩) rfl (by kernel_rfl)
def Jp(l:Lsn)(t0:Int×List Hrd):NF:=⟨[rR 1 0,rR 2 2,rI 10 ((l.heard.map Hrd.v).length:Int),rI 11 t0.1],[.box (.agg [.int l.router,.int l.epoch,.vec 1]),vB 4 Hrd.v t0.2 (λ_=>rfl),.box (.agg [.int 0,.int 0,.sl 0 [] true])]⟩
@[reducible] def Da:Nat→Type
 | 0=>Int×List Hrd
 | _=>Unit
def Db(r:Lsn):AV:=Lsn.v r
def CZ(l:Lsn)(I0:(Int×List Hrd)→Prop)(m0:(Int×List Hrd)→Nat):Ax Tryz.prog Da (Lsn):=
 (.req 64 (l.heard.length≤1000000) λh1 =>
(.callH [] (Lm l.heard h1) 64
(.loop 0 (Jp l) I0 m0 (0,l.heard) [0,64,16] λ(t0:Int×List Hrd) b0 =>
(.br 19 (decide (t0.1<((l.heard.map Hrd.v).length:Int))) (.elJ 179 Hrd.v t0.2 t0.1 λx2 =>
(.req 195 (fF x2.items) λh3 =>
(.callP (wF x2.items h3)
(.stJ 243 Hrd.v t0.2 t0.1 (λy4=>(⟨y4.router,y4.epoch,y4.ver,x2.items⟩:Hrd)) λy4 =>
(.bk 0 b0 (W (t0.1+1),t0.2.set t0.1.toNat (⟨y4.router,y4.epoch,y4.ver,x2.items⟩:Hrd)) [0,1,2])))))
(.fz 1 Hrd.v t0.2 (λ_=>rfl) (.ret ((⟨l.router,l.epoch,t0.2⟩:Lsn))))))))
theorem OS(l:Lsn)(h:CG l):∃I m,(CZ l I m).vp Db l:=by
 obtain⟨h1,h2⟩:=h;refine⟨λt=>∃k:Nat,t=((k:Int),l.heard)∧k≤l.heard.length,λt=>l.heard.length-t.1.toNat,?_⟩;dsimp only[CZ,Da,Ax.vp,Ax.vc];simp only[vcU,rfU,f'];refine⟨by omega,⟨0,rfl,by omega⟩,?_⟩;rintro _ ⟨k,rfl,hk⟩;simp only[Int.toNat_natCast];refine⟨λh3=>⟨by simp;omega,by omega,λx hx=>⟨h2 x (ax hx),by simp;omega,by omega,λy hy=>?_⟩⟩,λ_=>trivial⟩;cases hx.symm.trans hy;rw[am (n:=l.heard.length) (by omega) (by omega)];refine⟨⟨k+1,?_,by omega⟩,by omega⟩;exact congrArg _ (pb hx)
def OT(l:Lsn)(h:CG l):PC Tryz.prog:=pcO 265 [(.a [.k,.k,(.s 4)])] [Lsn.v l] (.a [.k,.k,(.s 4)]) Db l (λ_=>let ⟨I0,m0,h⟩:=OS l h;⟨_,h,by kernel_rfl⟩) rfl (by kernel_rfl)
def Hs(l:List Sig)(t0:Int×List Sig):NF:=⟨[rV 0 0,rI 7 ((l.map Sig.v).length:Int),rI 8 t0.1],[vB 10 Sig.v t0.2 (λ_=>rfl)]⟩
@[reducible] def BL:Nat→Type
 | 0=>Int×List Sig
 | _=>Unit
def tj(r:List Sig):AV:=.vec 0
def tk(r:List Sig):List (Option Blk):=[some (.vec 10 (r.map Sig.v))]
def BK(l:List Sig)(I0:(Int×List Sig)→Prop)(m0:(Int×List Sig)→Nat):Ax Tryz.prog BL ((List Sig)):=
 (.req 32 (l.length≤1000000) λh1 =>
(.callH [] (Lo l h1) 32
(.loop 0 (Hs l) I0 m0 (0,l) [32] λ(t0:Int×List Sig) b0 =>
(.br 17 (decide (t0.1<((l.map Sig.v).length:Int))) (.elJ 161 Sig.v t0.2 t0.1 λx2 =>
(.req 177 (x2.srcs.length≤1000000) λh3 =>
(.callP (mA x2.srcs h3)
(.stJ 241 Sig.v t0.2 t0.1 (λy4=>(⟨y4.kind,y4.src,y4.dst,y4.epoch,y4.ver,y4.prev,y4.pep,y4.grp,y4.mode,x2.srcs⟩:Sig)) λy4 =>
(.bk 0 b0 (W (t0.1+1),t0.2.set t0.1.toNat (⟨y4.kind,y4.src,y4.dst,y4.epoch,y4.ver,y4.prev,y4.pep,y4.grp,y4.mode,x2.srcs⟩:Sig)) [0])))))
(.retH t0.2 ⟨[rV 2 0],[vB 10 Sig.v t0.2 (λ_=>rfl)]⟩ [0])))))
theorem Nk(l:List Sig)(h:tL l):∃I m,(BK l I m).vc tj tk l:=by
 obtain⟨h1,h2⟩:=h;refine⟨λt=>∃k:Nat,t=((k:Int),l)∧k≤l.length,λt=>l.length-t.1.toNat,?_⟩;dsimp only[BK,BL,Ax.vp,Ax.vc];simp only[vcU,rfU,f'];refine⟨by omega,⟨0,rfl,by omega⟩,?_⟩;rintro _ ⟨k,rfl,hk⟩;simp only[Int.toNat_natCast];refine⟨λh3=>⟨by simp;omega,by omega,λx hx=>⟨h2 x (ax hx),by simp;omega,by omega,λy hy=>?_⟩⟩,λ_=>trivial⟩;cases hx.symm.trans hy;rw[am (n:=l.length) (by omega) (by omega)];refine⟨⟨k+1,?_,by omega⟩,by omega⟩;exact congrArg _ (pb hx)
def Nl(l:List Sig)(h:tL l):HC Tryz.prog:=hcO 263 [(.s 10)] [.sl 10 (l.map Sig.v) false] [] .k tj tk l (λ_ _=>let ⟨I0,m0,h⟩:=Nk l h;⟨_,h,by kernel_rfl⟩) (by kernel_rfl) (by simp[hcB,bI,AV.belB,allB,cE,bW,tj,tk,ae (v:=Sig.v) (λ_=>rfl)])
def BI(r:Spk):AV:=Spk.v r
def th(s:Spk):Ax Tryz.prog noS (Spk):=
 (.req 64 (fF s.items) λh1 =>
(.callP (wF s.items h1)
(.req 112 (s.peers.length≤1000000) λh2 =>
(.callH [] (xO s.peers h2) 112
(.fz 112 Per.v s.peers (λ_=>rfl) (.ret (s)))))))
theorem Nc(s:Spk)(h:CF s):(th s).vp BI s:=by
 dsimp only[th,noS,Ax.vp,Ax.vc];simp only[vcU,rfU,f'];exact⟨h.1,h.2,trivial⟩
def Nd(s:Spk)(h:CF s):PC Tryz.prog:=pcO 264 [(.a [.k,.k,.k,(.s 4),(.s 3)])] [Spk.v s] (.a [.k,.k,.k,(.s 4),(.s 3)]) BI s (λ_=>⟨(th s),Nc s h,by kernel_rfl⟩) rfl (by kernel_rfl)
theorem Iu{o:Ovl}(h:bF o)(hl:o.fl.length≤1000000):tL o.fl:=⟨hl,λx hx=>vr (h.2 x hx).1⟩
def P4(o:Ovl)(t0:Int×List Lsn×List Spk):NF:=⟨[rR 1 0,rR 2 1,rR 3 2,rI 11 ((o.sp.map Spk.v).length:Int),rI 12 t0.1],[.box (Ovl.v o),.box (.agg [.sl 0 [] true,.sl 0 [] true,.sl 0 [] true]),.box (.agg [.vec 3,.vec 4,.vec 5]),vB 5 Spk.v t0.2.2 (λ_=>rfl),vB 3 Lsn.v t0.2.1 (λ_=>rfl),vB 10 Sig.v o.fl (λ_=>rfl)]⟩
@[reducible] def KQ:Nat→Type
 | 0=>Int×List Lsn×List Spk
 | _=>Unit
def Au(r:Ovl):AV:=.agg [.vec 0,.vec 1,.vec 2]
def Av(r:Ovl):List (Option Blk):=[some (.vec 5 (r.sp.map Spk.v)),some (.vec 3 (r.ls.map Lsn.v)),some (.vec 10 (r.fl.map Sig.v))]
def KP(o:Ovl)(I0:(Int×List Lsn×List Spk)→Prop)(m0:(Int×List Lsn×List Spk)→Nat):Ax Tryz.prog KQ (Ovl):=
 (.req 64 (tL o.fl) λh1 =>
(.callH [] (Nl o.fl h1) 64
(.cmdL (.nilB 96 0 5) (.cmdL (.nilB 96 1 3) (.loop 0 (P4 o) I0 m0 (0,[],[]) [0,16,96,192,193,64] λ(t0:Int×List Lsn×List Spk) b0 =>
(.br 22 (decide (t0.1<((o.sp.map Spk.v).length:Int))) (.elI 134 Spk.v o.sp t0.1 λx2 =>
(.req 166 (CF x2) λh3 =>
(.callP (Nd x2 h3)
(.apX 198 Spk.v t0.2.2 [x2] (t0.2.2.length+1)
(.elI 294 Lsn.v o.ls t0.1 λx4 =>
(.req 326 (CG x4) λh5 =>
(.callP (OT x4 h5)
(.apX 358 Lsn.v t0.2.1 [x4] (t0.2.1.length+1)
(.bk 0 b0 (W (t0.1+1),t0.2.1++[x4],t0.2.2++[x2]) [0,1,2,198,358,5])))))))))
(.retH (⟨t0.2.2,t0.2.1,o.fl⟩:Ovl) ⟨[rR 2 3],[vB 5 Spk.v t0.2.2 (λ_=>rfl),vB 3 Lsn.v t0.2.1 (λ_=>rfl),vB 10 Sig.v o.fl (λ_=>rfl),.box (.agg [.vec 0,.vec 1,.vec 2])]⟩ [3,4,5,1])))))))
theorem Tp(o:Ovl)(h:bF o∧o.fl.length≤1000000):∃I m,(KP o I m).vc Au Av o:=by
 obtain⟨h1,h2⟩:=h;obtain⟨n1,n2,n3,n4⟩:=dK.mp h1;refine⟨λt=>∃k:Nat,t=((k:Int),o.ls.take k,o.sp.take k)∧k≤o.sp.length,λt=>o.sp.length-t.1.toNat,?_⟩;dsimp only[KP,KQ,Ax.vp,Ax.vc];simp only[vcU,rfU,f'];refine⟨Iu h1 h2,⟨0,rfl,by omega⟩,?_⟩;rintro _ ⟨k,rfl,hk⟩;simp only[Int.toNat_natCast]
 refine⟨λh3=>⟨by omega,by omega,λx hx=>⟨RJ (h1.1.spo x (ax hx)).1,by simp;omega,by omega,by omega,λy hy=>⟨SA (h1.1.lso y (ax hy)).1,by simp;omega,?_⟩⟩⟩,λh3=>?_⟩
 ·rw[am (n:=o.sp.length) (by omega) (by omega)];exact⟨⟨k+1,by rw[al hx,al hy],by omega⟩,by omega⟩
 ·rw[G' (by omega),G' (by omega)]
def Tq(o:Ovl)(h:bF o∧o.fl.length≤1000000):HC Tryz.prog:=hcO 145 [(.a [(.s 5),(.s 3),(.s 10)])] [Ovl.v o] [] .k Au Av o (λ_ _=>let ⟨I0,m0,h⟩:=Tp o h;⟨_,h,by kernel_rfl⟩) (by kernel_rfl) (by simp[hcB,bI,AV.belB,allB,cE,bW,Au,Av,Ovl.v,yQ,zF,yY,ae (v:=Lsn.v) (λ_=>rfl),ae (v:=Sig.v) (λ_=>rfl),ae (v:=Spk.v) (λ_=>rfl)])
def nH(x:Wnt)(l:List Wnt):List Wnt:=l++[⟨x.grp,1,[]⟩]
def qC(y:Wnt)(l:List Wnt):List Wnt:=l++[y]
def qB(x y:Wnt)(l:List Wnt):List Wnt:=if x.mode=y.mode∧x.srcs=y.srcs then l else l++[y]
def cW:List Wnt→List Wnt→List Wnt→List Wnt
 | [],[],l=>l
 | x::a,[],l=>cW a [] (nH x l)
 | [],y::b,l=>cW [] b (qC y l)
 | x::a,y::b,l=>if x.grp<y.grp then cW a (y::b) (nH x l)else if y.grp<x.grp then cW (x::a) b (qC y l)else cW a b (qB x y l)
termination_by a b=>a.length+b.length
def FU(l:List Wnt):Prop:=l.Pairwise λx y=>x.grp<y.grp
theorem dF(x:Wnt)(l:List Wnt)(g:Int):aQ (x::l) g=if x.grp=g then⟨x.mode,x.srcs⟩else aQ l g:=by
 unfold aQ;rw[List.find?_cons]
 by_cases h:x.grp=g
 ·rw[if_pos h];simp[h]
 ·rw[u' h];simp[h]
theorem eo{l:List Wnt}{g:Int}(h:∀w∈l,g<w.grp):aQ l g=⟨1,[]⟩:=gq λw hw=>by have:=h w hw;omega
structure Mrg (a b l r:List Wnt):Prop where
  mem:∀w,w∈r↔w∈l∨(aQ b w.grp=⟨w.mode,w.srcs⟩∧aQ b w.grp≠aQ a w.grp)
  asc:(∀w∈l,(∀x∈a,w.grp<x.grp)∧∀y∈b,w.grp<y.grp)→FU l→FU r
theorem jE{l:List Wnt}{x:Wnt}(h:FU l)(hx:∀w∈l,w.grp<x.grp):FU (l++[x]):=
 af'.mpr ⟨h,aI' _ _,λa ha b hb=>by rw[O']at hb;subst hb;exact hx a ha⟩
theorem Wnt.ext'{x y:Wnt}(h1:x.grp=y.grp)(h2:(⟨x.mode,x.srcs⟩:Flt)=⟨y.mode,y.srcs⟩):x=y:=by
 rw[eA]at h2;obtain⟨h3,h4⟩:=h2;cases x;cases y;simp only at h1 h3 h4;rw[h1,h3,h4]
theorem CJ{x:Wnt}(h:¬cQ x):(⟨1,[]⟩:Flt)≠⟨x.mode,x.srcs⟩:=λe=>by
 rw[eA]at e;exact h ⟨e.1.symm,e.2.symm⟩
theorem ng:∀{a b l:List Wnt},FU a→FU b→(∀w∈a,¬cQ w)→(∀w∈b,¬cQ w)→Mrg a b l (cW a b l)
 | [],[],l,_,_,_,_=>by
  rw[cW];exact⟨λw=>⟨.inl,λh=>h.elim id λh=>absurd rfl h.2⟩,λ_ h=>h⟩
 | x::a,[],l,ha,hb,na,nb=>by
  rw[cW];obtain⟨a1,a2⟩:=an'.mp ha;have r:=ng (a:=a) (b:=[]) (l:=nH x l) a2 hb (λw hw=>na w (by simp[hw])) nb
  refine⟨λw=>?_,λh1 h2=>r.asc (λw hw=>?_) (jE h2 λw hw=>(h1 w hw).1 x (by simp))⟩
  ·rw[r.mem,dF,nH,L',O',show aQ [] w.grp=⟨1,[]⟩from rfl]
   by_cases e:x.grp=w.grp
   ·rw[if_pos e,eo λz hz=>by have:=a1 z hz;omega]
    constructor
    ·rintro((h|h)|h)
     ·exact .inl h
     ·right;subst h;exact⟨rfl,CJ (na x (by simp))⟩
     ·exact absurd rfl h.2
    ·rintro(h|⟨h,_⟩)
     ·exact .inl (.inl h)
     ·exact .inl (.inr (Wnt.ext' e.symm h.symm))
   ·rw[u' e]
    constructor
    ·rintro((h|h)|h)
     ·exact .inl h
     ·subst h;exact absurd rfl e
     ·exact .inr h
    ·rintro(h|h)
     ·exact .inl (.inl h)
     ·exact .inr h
  ·rcases L'.mp hw with hw|hw
   ·exact⟨λz hz=>(h1 w hw).1 z (by simp[hz]),(h1 w hw).2⟩
   ·rw[O']at hw;subst hw;exact⟨a1,by simp⟩
 | [],y::b,l,ha,hb,na,nb=>by
  rw[cW];obtain⟨b1,b2⟩:=an'.mp hb;have r:=ng (a:=[]) (b:=b) (l:=qC y l) ha b2 na λw hw=>nb w (by simp[hw])
  refine⟨λw=>?_,λh1 h2=>r.asc (λw hw=>?_) (jE h2 λw hw=>(h1 w hw).2 y (by simp))⟩
  ·rw[r.mem,dF,qC,L',O',show aQ [] w.grp=⟨1,[]⟩from rfl]
   by_cases e:y.grp=w.grp
   ·rw[if_pos e,eo λz hz=>by have:=b1 z hz;omega]
    constructor
    ·rintro((h|h)|h)
     ·exact .inl h
     ·right;subst h;exact⟨rfl,(CJ (nb w (by simp))).symm⟩
     ·exact absurd rfl h.2
    ·rintro(h|⟨h,_⟩)
     ·exact .inl (.inl h)
     ·exact .inl (.inr (Wnt.ext' e.symm h.symm))
   ·rw[u' e]
    constructor
    ·rintro((h|h)|h)
     ·exact .inl h
     ·subst h;exact absurd rfl e
     ·exact .inr h
    ·rintro(h|h)
     ·exact .inl (.inl h)
     ·exact .inr h
  ·rcases L'.mp hw with hw|hw
   ·exact⟨(h1 w hw).1,λz hz=>(h1 w hw).2 z (by simp[hz])⟩
   ·rw[O']at hw;subst hw;exact⟨by simp,b1⟩
 | x::a,y::b,l,ha,hb,na,nb=>by
  rw[cW];obtain⟨a1,a2⟩:=an'.mp ha;obtain⟨b1,b2⟩:=an'.mp hb
  by_cases c1:x.grp<y.grp
  ·rw[if_pos c1];have r:=ng (a:=a) (b:=y::b) (l:=nH x l) a2 hb (λw hw=>na w (by simp[hw])) nb
   refine⟨λw=>?_,λh1 h2=>r.asc (λw hw=>?_) (jE h2 λw hw=>(h1 w hw).1 x (by simp))⟩
   ·rw[r.mem,dF x,nH,L',O']
    by_cases e:x.grp=w.grp
    ·have eb:aQ (y::b) w.grp=⟨1,[]⟩:=eo λz hz=>by
      rcases P'.mp hz with rfl|hz
      ·omega
      ·have:=b1 z hz;omega
     rw[if_pos e,eo (l:=a) λz hz=>by have:=a1 z hz;omega,eb]
     constructor
     ·rintro((h|h)|h)
      ·exact .inl h
      ·right;subst h;exact⟨rfl,CJ (na x (by simp))⟩
      ·exact absurd rfl h.2
     ·rintro(h|⟨h,_⟩)
      ·exact .inl (.inl h)
      ·exact .inl (.inr (Wnt.ext' e.symm h.symm))
    ·rw[u' e]
     constructor
     ·rintro((h|h)|h)
      ·exact .inl h
      ·subst h;exact absurd rfl e
      ·exact .inr h
     ·rintro(h|h)
      ·exact .inl (.inl h)
      ·exact .inr h
   ·rcases L'.mp hw with hw|hw
    ·exact⟨λz hz=>(h1 w hw).1 z (by simp[hz]),(h1 w hw).2⟩
    ·rw[O']at hw;subst hw;refine⟨a1,λz hz=>?_⟩
     rcases P'.mp hz with rfl|hz
     ·exact c1
     ·have:=b1 z hz;simp only;omega
  rw[u' c1]
  by_cases c2:y.grp<x.grp
  ·rw[if_pos c2];have r:=ng (a:=x::a) (b:=b) (l:=qC y l) ha b2 na λw hw=>nb w (by simp[hw])
   refine⟨λw=>?_,λh1 h2=>r.asc (λw hw=>?_) (jE h2 λw hw=>(h1 w hw).2 y (by simp))⟩
   ·rw[r.mem,dF y,qC,L',O']
    by_cases e:y.grp=w.grp
    ·have ea:aQ (x::a) w.grp=⟨1,[]⟩:=eo λz hz=>by
      rcases P'.mp hz with rfl|hz
      ·omega
      ·have:=a1 z hz;omega
     rw[if_pos e,eo (l:=b) λz hz=>by have:=b1 z hz;omega,ea]
     constructor
     ·rintro((h|h)|h)
      ·exact .inl h
      ·right;subst h;exact⟨rfl,(CJ (nb w (by simp))).symm⟩
      ·exact absurd rfl h.2
     ·rintro(h|⟨h,_⟩)
      ·exact .inl (.inl h)
      ·exact .inl (.inr (Wnt.ext' e.symm h.symm))
    ·rw[u' e]
     constructor
     ·rintro((h|h)|h)
      ·exact .inl h
      ·subst h;exact absurd rfl e
      ·exact .inr h
     ·rintro(h|h)
      ·exact .inl (.inl h)
      ·exact .inr h
   ·rcases L'.mp hw with hw|hw
    ·exact⟨(h1 w hw).1,λz hz=>(h1 w hw).2 z (by simp[hz])⟩
    ·rw[O']at hw;subst hw;refine⟨λz hz=>?_,b1⟩
     rcases P'.mp hz with rfl|hz
     ·exact c2
     ·have:=a1 z hz;omega
  rw[u' c2];have c3:x.grp=y.grp:=by omega
  have r:=ng (a:=a) (b:=b) (l:=qB x y l) a2 b2 (λw hw=>na w (by simp[hw])) λw hw=>nb w (by simp[hw])
  by_cases c4:x.mode=y.mode∧x.srcs=y.srcs
  ·have ec:qB x y l=l:=if_pos c4;have ef:(⟨x.mode,x.srcs⟩:Flt)=⟨y.mode,y.srcs⟩:=by rw[c4.1,c4.2]
   rw[ec]at r ⊢;refine⟨λw=>?_,λh1 h2=>r.asc (λw hw=>⟨λz hz=>(h1 w hw).1 z (by simp[hz]),λz hz=>(h1 w hw).2 z (by simp[hz])⟩) h2⟩;rw[r.mem,dF x,dF y]
   by_cases e:y.grp=w.grp
   ·rw[if_pos e,if_pos (c3.trans e),eo (l:=a) λz hz=>by have:=a1 z hz;omega,eo (l:=b) λz hz=>by have:=b1 z hz;omega]
    constructor
    ·rintro(h|h)
     ·exact .inl h
     ·exact absurd rfl h.2
    ·rintro(h|h)
     ·exact .inl h
     ·exact absurd ef.symm h.2
   ·rw[u' e,u' (by omega)]
  ·have ec:qB x y l=l++[y]:=u' c4;have ef:(⟨y.mode,y.srcs⟩:Flt)≠⟨x.mode,x.srcs⟩:=λe=>c4 (by rw[eA]at e;exact⟨e.1.symm,e.2.symm⟩);rw[ec]at r ⊢
   refine⟨λw=>?_,λh1 h2=>r.asc (λw hw=>?_) (jE h2 λw hw=>(h1 w hw).2 y (by simp))⟩
   ·rw[r.mem,dF x,dF y,L',O']
    by_cases e:y.grp=w.grp
    ·rw[if_pos e,if_pos (c3.trans e),eo (l:=a) λz hz=>by have:=a1 z hz;omega,eo (l:=b) λz hz=>by have:=b1 z hz;omega]
     constructor
     ·rintro((h|h)|h)
      ·exact .inl h
      ·right;subst h;exact⟨rfl,ef⟩
      ·exact absurd rfl h.2
     ·rintro(h|⟨h,_⟩)
      ·exact .inl (.inl h)
      ·exact .inl (.inr (Wnt.ext' e.symm h.symm))
    ·rw[u' e,u' (by omega)]
     constructor
     ·rintro((h|h)|h)
      ·exact .inl h
      ·subst h;exact absurd rfl e
      ·exact .inr h
     ·rintro(h|h)
      ·exact .inl (.inl h)
      ·exact .inr h
   ·rcases L'.mp hw with hw|hw
    ·exact⟨λz hz=>(h1 w hw).1 z (by simp[hz]),λz hz=>(h1 w hw).2 z (by simp[hz])⟩
    ·rw[O']at hw;subst hw;exact⟨λz hz=>by have:=a1 z hz;omega,b1⟩
termination_by a b=>a.length+b.length
theorem IU{a b:List Wnt}(h1:aI false a=0)(h2:aI false b=0):cW a b []=bU a b 99:=by
 have w1:=bC.mp h1;have w2:=bC.mp h2;have r:=ng (l:=[]) w1.2.2.2.2 w2.2.2.2.2 (w1.2.2.2.1 rfl) (w2.2.2.2.1 rfl);refine mE (r.asc (by simp) List.Pairwise.nil) (kc w2.2.2.1 99).asc λw=>?_;rw[r.mem,kP];simp only[aq',false_or];refine⟨λh=>⟨?_,h.1,h.2⟩,λh=>⟨h.2.1,h.2.2⟩⟩
 by_cases q:aQ b w.grp=⟨1,[]⟩
 ·have:aQ a w.grp≠⟨1,[]⟩:=λe=>h.2 (by rw[q,e]);obtain⟨x,hx,e,_⟩:=iR this;rw[←e];exact w1.2.1 x hx
 ·obtain⟨x,hx,e,_⟩:=iR q;rw[←e];exact w2.2.1 x hx
theorem ba.supH{P:Program}{f:FuncId}{args:List AV}{hs:List Blk}{r:AV}{h1 h2:List (Option Blk)}(hl:h1.length=h2.length)
  (hn:∀(i:Nat) (x:Blk),h2[i]?=some (some x)→∃y,h1[i]?=some (some y)∧∀w A μ hd,du w A μ hd y→du w A μ hd x)
  (hm:∀(i:Nat) (y:Blk),h1[i]?=some (some y)→∃x,h2[i]?=some (some x)) (h:ba P f args hs r h1):ba P f args hs r h2:=by
 intro w A μ cargs g1 g2 g3;refine(h w A μ cargs g1 g2 g3).mono ?_;rintro e w' ⟨v,A',μ',e1,e2,e3,e4,e5,e6,e7,e8⟩;have own':ce μ' (bn h2)=ce μ' (bn h1):=by
  funext b
  refine propext ⟨?_,?_⟩
  ·rintro⟨i,x,hd,a1,a2,a3,a4⟩;obtain⟨y,b1,_⟩:=hn i x (bp.mp a1);exact⟨i,y,hd,bp.mpr b1,a2,a3,a4⟩
  ·rintro⟨i,y,hd,a1,a2,a3,a4⟩;obtain⟨x,b1⟩:=hm i y (bp.mp a1);exact⟨i,x,hd,bp.mpr b1,a2,a3,a4⟩
 refine⟨v,A',μ',e1,e2,⟨λb x hx=>?_,λb b' x x' hd hd' hx hx'=>?_,e3.lt⟩,e4,e5,e6,e7,by rw[own'];exact e8⟩
 ·obtain⟨y,b1,b2⟩:=hn b x (bp.mp hx);obtain⟨hd,c1,c2,c3⟩:=e3.blk b y (bp.mpr b1);exact⟨hd,c1,b2 w' A' μ' hd c2,c3⟩
 ·obtain⟨y,b1,_⟩:=hn b x (bp.mp hx);obtain⟨y',b1',_⟩:=hn b' x' (bp.mp hx');exact e3.inj b b' y y' hd hd' (bp.mpr b1) (bp.mpr b1')
def Oy(x:Wnt):AV:=.agg [.int x.grp,.int 1,.sl 0 [] true]
def kl(x:Wnt)(out:List Wnt):List AV:=out.map Wnt.v++[Oy x]
theorem tU(l:List AV):l.map (λy=>y)=l:=cr' (λ_=>rfl) l
theorem rG(x:Wnt):∀out:List Wnt,bM (kl x out)=true
 | []=>rfl
 | y::l=>by
  have:=rG x l;unfold kl at this ⊢;rw[au',List.cons_append,bM,this];rfl
theorem po(x:Wnt)(out:List Wnt):bM ((kl x out).map λy=>y)=true:=by rw[tU];exact rG x out
def tC(r:List AV):AV:=.tup []
def mU(r:List AV):List (Option Blk):=[some (.box (.vec 2)),none,some (.vec 3 (r.map λy=>y))]
def RY:Nat→Type
 | _=>Unit
theorem Oh(x:Wnt)(out:List Wnt):mxH Tryz.prog 249 [.rptr (.agg [.int x.grp,.int x.mode,.sl 1 (x.srcs.map AV.int) false]) 0,.val (.pointer none),.ref 0 0] [.box (.vec 1),.vec 3 (out.map Wnt.v)] .k tC mU ((.app 178 (λy=>y) (out.map Wnt.v) [Oy x]
  (.retH (kl x out) ⟨[],[.box (.vec 2),.gone,.vec 3 ((kl x out).map λy=>y) (po x out)]⟩ [0,1,178])):An Tryz.prog RY (List AV)) (kl x out) =
  (out.map Wnt.v=(out.map Wnt.v).map (λy=>y)∧[Oy x]=[Oy x].map (λy=>y)∧ck (decide ((out.map Wnt.v).length+1≤1048576))
   (Nf ⟨[],[.box (.vec 2),.gone,.vec 3 ((kl x out).map λy=>y) (po x out)]⟩ [0,1,178] (Rf (tC (kl x out)) (Rf (mU (kl x out)) (kl x out=kl x out))))):=by kernel_rfl
theorem Og(x:Wnt)(out:List Wnt)(hl:out.length≤900000):ba Tryz.prog 249 [.rptr (.agg [.int x.grp,.int x.mode,.sl 1 (x.srcs.map AV.int) false]) 0,.val (.pointer none),.ref 0 0] [.box (.vec 1),.vec 3 (out.map Wnt.v)] (tC (kl x out)) (mU (kl x out)):=by
 have e:=Oh x out;refine IN (enc:=tC) (hB:=mU) (e.mpr ⟨(tU _).symm,rfl,?_⟩);simp only[vcU,rfU,f'];exact⟨by omega,trivial⟩
def Ls(r:List Wnt):AV:=.tup []
def AE(r:List Wnt):List (Option Blk):=[some (.box (.vec 2)),none,some (.vec 3 (r.map Wnt.v))]
theorem vJ(x:Wnt)(out:List Wnt):((kl x out).map λy=>y).map (bg (.a [.k,.k,.s 1]))=(nH x out).map Wnt.v:=by
 rw[tU,kl,nH,List.map_append,List.map_append,aV'];exact congr (congrArg _ (aF' λy _=>rfl)) rfl
def T7(x:Wnt)(out:List Wnt)(h:x.srcs.length≤1000000)(hl:out.length≤900000):HC Tryz.prog:=
 ⟨249,[.k,.k,.k],[.rptr (.agg [.int x.grp,.int x.mode,.sl 1 (x.srcs.map AV.int) false]) 0,.val (.pointer none),.ref 0 0],[.box (.vec 1),.vec 3 (out.map Wnt.v)],Ls (nH x out),AE (nH x out),
  ba.supH (h1:=mU (kl x out)) rfl (λi y hy=>by
   rcases i with _|_|_|i
   ·cases hy;exact⟨_,rfl,λ_ _ _ _ q=>q⟩
   ·cases hy
   ·cases hy;refine⟨_,rfl,λw A μ hd q=>?_⟩;rw[←vJ];refine du.mapSub (dE _) (λz hz=>?_) q;rw[vJ]at hz;obtain⟨u,_,rfl⟩:=R'.mp hz;rfl
   ·simp[AE]at hy) (λi y hy=>by
   rcases i with _|_|_|i
   ·exact⟨_,rfl⟩
   ·cases hy
   ·exact⟨_,rfl⟩
   ·simp[mU]at hy) (Og x out hl),
  iQ (by kernel_rfl),qO.of (by simp[hcB,bI,AV.belB,allB,cE,bW,Ls,AE,ae (v:=AV.int) (λ_=>rfl),ae (v:=Wnt.v) (λ_=>rfl)])⟩
def AB(r:List Wnt):AV:=.tup []
def AD(r:List Wnt):List (Option Blk):=[some (.box (.vec 2)),none,some (.vec 3 (r.map Wnt.v))]
def AA(y:Wnt)(out:List Wnt):Ax Tryz.prog noS ((List Wnt)):=
 (.req 354 (y.srcs.length≤1000000) λh1 =>
(.callP (iA y h1)
(.apX 386 Wnt.v out [y] (out.length+1)
(.retH (out++[y]) ⟨[],[.box (.vec 2),.gone,vB 3 Wnt.v (out++[y]) (λ_=>rfl)]⟩ [0,1,386]))))
theorem T5(y:Wnt)(l:List Wnt)(h:y.srcs.length≤1000000)(hl:l.length≤900000):(AA y l).vc AB AD (qC y l):=by
 dsimp only[AA,noS,Ax.vp,Ax.vc];simp only[vcU,rfU,f'];exact⟨h,by omega,rfl⟩
def T6(y:Wnt)(out:List Wnt)(h:y.srcs.length≤1000000)(hl:out.length≤900000):HC Tryz.prog:=hcO 249 [.k,.k,.k] [.val (.pointer none),.rptr (Wnt.v y) 0,.ref 0 0] [.box (.vec 1),.vec 3 (out.map Wnt.v)] .k AB AD (qC y out) (λ_ _=>⟨(AA y out),T5 y out h hl,by kernel_rfl⟩) (by kernel_rfl) (by simp[hcB,bI,AV.belB,allB,cE,bW,AB,AD,ae (v:=AV.int) (λ_=>rfl),ae (v:=Wnt.v) (λ_=>rfl)])
def A8(r:List Wnt):AV:=.tup []
def A9(r:List Wnt):List (Option Blk):=[some (.box (.vec 2)),none,some (.vec 3 (r.map Wnt.v))]
def A7(x:Wnt)(y:Wnt)(out:List Wnt):Ax Tryz.prog noS ((List Wnt)):=
 (.callP (uO (⟨x.mode,x.srcs⟩:Flt) (⟨y.mode,y.srcs⟩:Flt))
(.br 290 (!(oq (⟨x.mode,x.srcs⟩:Flt) (⟨y.mode,y.srcs⟩:Flt))) (.req 354 (y.srcs.length≤1000000) λh1 =>
(.callP (iA y h1)
(.apX 386 Wnt.v out [y] (out.length+1)
(.retH (out++[y]) ⟨[],[.box (.vec 2),.gone,vB 3 Wnt.v (out++[y]) (λ_=>rfl)]⟩ [0,1,386]))))
(.retH out ⟨[],[.box (.vec 2),.gone,vB 3 Wnt.v out (λ_=>rfl)]⟩ [0,1,1])))
theorem T3(x y:Wnt)(l:List Wnt)(h:y.srcs.length≤1000000)(hl:l.length≤900000):(A7 x y l).vc A8 A9 (qB x y l):=by
 dsimp only[A7,noS,Ax.vp,Ax.vc];simp only[vcU,rfU,f'];unfold qB
 refine⟨λe=>⟨h,by omega,?_⟩,λe=>?_⟩
 ·rw[u'];intro q;simp[oq,cd,eA,q.1,q.2]at e
 ·rw[if_pos];simpa[oq,cd,eA]using e
def T4(x:Wnt)(y:Wnt)(out:List Wnt)(h:y.srcs.length≤1000000)(hl:out.length≤900000):HC Tryz.prog:=hcO 249 [.k,.k,.k] [.rptr (Wnt.v x) 0,.rptr (Wnt.v y) 0,.ref 0 0] [.box (.vec 1),.vec 3 (out.map Wnt.v)] .k A8 A9 (qB x y out) (λ_ _=>⟨(A7 x y out),T3 x y out h hl,by kernel_rfl⟩) (by kernel_rfl) (by simp[hcB,bI,AV.belB,allB,cE,bW,A8,A9,ae (v:=AV.int) (λ_=>rfl),ae (v:=Wnt.v) (λ_=>rfl)])
def O5(a:List Wnt)(b:List Wnt)(out:List Wnt):=okL [.sl 3 (a.map Wnt.v) false,.sl 3 (b.map Wnt.v) false,.func 249 [.ref 0 0]]∧(.box (.vec 1):Blk).ok∧(.vec 3 (out.map Wnt.v):Blk).ok
def IX(t0:List Wnt×List Wnt×List Wnt):NF:=⟨[(0,(.s 3),.sl 3 (t0.1.map Wnt.v) false),(1,(.s 3),.sl 3 (t0.2.1.map Wnt.v) false),(2,.k,.func 249 [.ref 0 0])],[.box (.vec 2),.gone,vB 3 Wnt.v t0.2.2 (λ_=>rfl)]⟩
def IW(t0:List Wnt×List Wnt×List Wnt)(t1:Unit):NF:=⟨[(0,.k,.sl 3 (t0.1.map Wnt.v) false),(1,.k,.sl 3 (t0.2.1.map Wnt.v) false),(2,.k,.func 249 [.ref 0 0])],[.box (.vec 2),.gone,vB 3 Wnt.v t0.2.2 (λ_=>rfl)]⟩
def IV(t0:List Wnt×List Wnt×List Wnt)(t2:Int):NF:=⟨[(0,.k,.sl 3 (t0.1.map Wnt.v) false),(1,.k,.sl 3 (t0.2.1.map Wnt.v) false),(2,.k,.func 249 [.ref 0 0]),rI 6 t2],[.box (.vec 2),.gone,vB 3 Wnt.v t0.2.2 (λ_=>rfl)]⟩
@[reducible] def CT:Nat→Type
 | 0=>(List Wnt)×List Wnt×List Wnt
 | 1=>Unit
 | 2=>Int
 | _=>Unit
def tN(r:List Wnt):AV:=.tup []
def tO(r:List Wnt):List (Option Blk):=[some (.box (.vec 2)),none,some (.vec 3 (r.map Wnt.v))]
def CS(a:List Wnt)(b:List Wnt)(out:List Wnt)(I0:(List Wnt×List Wnt×List Wnt)→Prop)(m0:(List Wnt×List Wnt×List Wnt)→Nat):Ax Tryz.prog CT ((List Wnt)):=
 (.loop 0 (IX) I0 m0 (a,b,out) [0,1,1] λ(t0:List Wnt×List Wnt×List Wnt) b0 =>
(.join 1 (IW t0) (λ(t1:Unit)=>(bif (decide (0<((t0.1.map Wnt.v).length:Int)))then true else(bif (decide (0<((t0.2.1.map Wnt.v).length:Int)))then true else false))=true) (λb1=>(.br 67 (decide (0<((t0.1.map Wnt.v).length:Int))) (.bk 1 b1 ((()):Unit) [0,1,2])
(.br 131 (decide (0<((t0.2.1.map Wnt.v).length:Int))) (.bk 1 b1 ((()):Unit) [0,1,2])
(.retH t0.2.2 ⟨[],[.box (.vec 2),.gone,vB 3 Wnt.v t0.2.2 (λ_=>rfl)]⟩ [0,1,2])))) λ(t1:Unit) =>
(.pass (.join 2 (IV t0) (λ(t2:Int)=>((((t0.1.map Wnt.v).length:Int)==0)=true∧t2=((1):Int))∨((((t0.1.map Wnt.v).length:Int)==0)=false∧(((t0.2.1.map Wnt.v).length:Int)==0)=true∧t2=((-1):Int))∨((((t0.1.map Wnt.v).length:Int)==0)=false∧(((t0.2.1.map Wnt.v).length:Int)==0)=false∧∃x1':Wnt,t0.1[0]?=some x1'∧∃x2':Wnt,t0.2.1[0]?=some x2'∧t2=((cmpI x1'.grp x2'.grp):Int))) (λb2=>(.br 83 (((t0.1.map Wnt.v).length:Int)==0) (.bk 2 b2 ((1):Int) [0,1,2])
(.br 147 (((t0.2.1.map Wnt.v).length:Int)==0) (.bk 2 b2 ((-1):Int) [0,1,2])
(.el 163 Wnt.v t0.1 (λR=>Rf (t0.1.map Wnt.v) (ck (decide (0<(t0.1.length:Int)))
(∀x1,t0.1[0]?=some x1 →
(R x1)))) λx1 =>
(.el 227 Wnt.v t0.2.1 (λR=>Rf (t0.2.1.map Wnt.v) (ck (decide (0<(t0.2.1.length:Int)))
(∀x2,t0.2.1[0]?=some x2 →
(R x2)))) λx2 =>
(.callP (nE x1.grp x2.grp)
(.bk 2 b2 ((cmpI x1.grp x2.grp):Int) [0,1,2]))))))) λ(t2:Int) =>
(.br 67 (decide (t2≤0)) (.el 83 Wnt.v t0.1 (λR=>Rf (t0.1.map Wnt.v) (ck (decide (0<(t0.1.length:Int)))
(∀x3,t0.1[0]?=some x3 →
(R x3)))) λx3 =>
(.say (λR=>Rf (α:=List AV) (t0.1.map Wnt.v) (ck (cg t0.1.length 1 (t0.1.length:Int) (t0.1.length:Int))
R)) (.sub 115 Wnt.v t0.1 false
(.br 195 (decide (0≤t2)) (.el 211 Wnt.v t0.2.1 (λR=>Rf (t0.2.1.map Wnt.v) (ck (decide (0<(t0.2.1.length:Int)))
(∀x4,t0.2.1[0]?=some x4 →
(R x4)))) λx4 =>
(.say (λR=>Rf (α:=List AV) (t0.2.1.map Wnt.v) (ck (cg t0.2.1.length 1 (t0.2.1.length:Int) (t0.2.1.length:Int))
R)) (.sub 243 Wnt.v t0.2.1 false
(.req 339 (x4.srcs.length≤1000000) λh5 =>
(.req 339 (t0.2.2.length≤900000) λh6 =>
(.callH [0,2] (T4 x3 x4 t0.2.2 h5 h6) 339
(.bk 0 b0 ((t0.1.take ((t0.1.length:Int).toNat)).drop 1,(t0.2.1.take ((t0.2.1.length:Int).toNat)).drop 1,qB x3 x4 t0.2.2) [0,1,339])))))))
(.req 243 (x3.srcs.length≤1000000) λh7 =>
(.req 243 (t0.2.2.length≤900000) λh8 =>
(.callH [0,2] (T7 x3 t0.2.2 h7 h8) 243
(.bk 0 b0 ((t0.1.take ((t0.1.length:Int).toNat)).drop 1,t0.2.1,nH x3 t0.2.2) [0,1,243]))))))))
(.br 99 (decide (0≤t2)) (.el 115 Wnt.v t0.2.1 (λR=>Rf (t0.2.1.map Wnt.v) (ck (decide (0<(t0.2.1.length:Int)))
(∀x9,t0.2.1[0]?=some x9 →
(R x9)))) λx9 =>
(.say (λR=>Rf (α:=List AV) (t0.2.1.map Wnt.v) (ck (cg t0.2.1.length 1 (t0.2.1.length:Int) (t0.2.1.length:Int))
R)) (.sub 147 Wnt.v t0.2.1 false
(.req 243 (x9.srcs.length≤1000000) λh10 =>
(.req 243 (t0.2.2.length≤900000) λh11 =>
(.callH [0,2] (T6 x9 t0.2.2 h10 h11) 243
(.bk 0 b0 (t0.1,(t0.2.1.take ((t0.2.1.length:Int).toNat)).drop 1,qC x9 t0.2.2) [0,1,243])))))))
(.say (λ_=>False) .nil)))))))
theorem xS(y:Wnt)(o:List Wnt):(qC y o).length≤o.length+1:=by simp[qC]
theorem Lr(x y:Wnt)(o:List Wnt):(qB x y o).length≤o.length+1:=by unfold qB;split<;>simp
theorem O3(a b l:List Wnt)(h:rP a b l)(ok:O5 a b l):∃I m,(CS a b l I m).vc tN tO (cW a b l):=by
 obtain⟨h1,h2,h3,h4,h5⟩:=h;refine⟨λt=>cW t.1 t.2.1 t.2.2=cW a b l∧t.1.length+t.2.1.length+t.2.2.length≤102000∧(∀x∈t.1,x.srcs.length≤1000000)∧∀x∈t.2.1,x.srcs.length≤1000000,λt=>t.1.length+t.2.1.length,?_⟩;dsimp only[CS,CT,Ax.vp,Ax.vc];simp only[vcU,rfU,f'];refine⟨⟨trivial,by omega,h4,h5⟩,?_⟩;rintro⟨A,B,o⟩ ⟨hm,hl,hA,hB⟩;clear ok;simp only at hm hl hA hB;cases A with
 | nil=>cases B with
  | nil =>
   simp;rw[←hm,cW]
  | cons y B =>
   simp[FS];have hb:=xS y o;rw[cW]at hm;simp only[Z',aC']at hl;exact⟨hm,by omega,by omega,hB y (by simp),λz hz=>hB z (by simp[hz])⟩
 | cons x A =>
  have ea:¬((A.length:Int)+1=0):=by omega
  cases B with
  | nil =>
   simp[FS,ea];rw[cW]at hm;simp only[Z',aC']at hl;exact⟨hm,by simp[nH];omega,by omega,hA x (by simp),λz hz=>hA z (by simp[hz])⟩
  | cons y B =>
   have eb:¬((B.length:Int)+1=0):=by omega
   have hc:=Lr x y o;simp[FS,ea,eb];have hb:=xS y o;rw[cW]at hm;simp only[Z']at hl;have hx:=hA x (by simp);have hy:=hB y (by simp);have hA':∀z∈A,z.srcs.length≤1000000:=λz hz=>hA z (by simp[hz]);have hB':∀z∈B,z.srcs.length≤1000000:=λz hz=>hB z (by simp[hz]);have hgt:0<cmpI x.grp y.grp↔y.grp<x.grp:=by
    have:=j8 x.grp y.grp;have:=nD x.grp y.grp;omega
   have hlt:=j8 x.grp y.grp;have heq:=nD x.grp y.grp
   refine⟨λc=>⟨λd=>⟨⟨?_,?_,hA',hB'⟩,by omega,hy,by omega⟩,λd=>⟨?_,by simp[nH];omega,hA',hy,by omega,hx,hB'⟩⟩,λc=>⟨λd=>⟨?_,by omega,⟨hx,hA'⟩,by omega,hy,hB'⟩,by omega⟩⟩
   ·rw[u' (by omega),u' (by omega)]at hm;exact hm
   ·show A.length+B.length+(qB x y o).length≤_;omega
   ·rw[if_pos (by omega)]at hm;exact hm
   ·rw[u' (by omega),if_pos (by omega)]at hm;exact hm
def O4(a:List Wnt)(b:List Wnt)(out:List Wnt)(h:rP a b out):HC Tryz.prog:=hcO 248 [(.s 3),(.s 3),.k] [.sl 3 (a.map Wnt.v) false,.sl 3 (b.map Wnt.v) false,.func 249 [.ref 0 0]] [.box (.vec 1),.vec 3 (out.map Wnt.v)] .k tN tO (cW a b out) (λok ok2=>let ⟨I0,m0,h⟩:=O3 a b out h ⟨ok,ok2 _ (by simp),ok2 _ (by simp)⟩;⟨_,h,by kernel_rfl⟩) (by kernel_rfl) (by simp[hcB,bI,AV.belB,allB,cE,bW,tN,tO,ae (v:=Wnt.v) (λ_=>rfl)])
def DR(r:List Wnt×Int):AV:=.tup [.sl 3 (r.1.map Wnt.v) false,.int r.2]
def uy(old:List Wnt)(new:List Wnt):Ax Tryz.prog noS (List Wnt×Int):=
 (.callP (sV old)
(.callP (sV new)
(.callP (CD [aI false old,aI false new])
(.br 176 ((orI [aI false old,aI false new]) != 0) (.ret ([],orI [aI false old,aI false new]))
(.wait (.cmd (.nilC 176 3) (.req 241 (rP old new []) λh1 =>
(.callH [176,192] (O4 old new [] h1) 241
(.say (Rf ((cW old new []).map Wnt.v)) (.cmd (.frzE 241 ((cW old new []).map Wnt.v) (ae (λ_=>rfl) (cW old new []))) (.callP (sa (cW old new []))
(.ret ((eL (cW old new [])).1,(eL (cW old new [])).2)))))))))))))
theorem PG(a c:List Wnt):(uy a c).vp DR (ah a c):=by
 dsimp only[uy,noS,Ax.vp,Ax.vc];simp only[vcU,rfU,f'];rw[oC];by_cases h1:aI false a=0
 case neg=>simp[ah,h1]
 by_cases h2:aI false c=0
 case neg=>simp[ah,h1,h2]
 have b1:=gY h1;have b2:=gY h2;refine⟨λe=>by simp[h1,h2]at e,λ_=>?_⟩;refine⟨⟨by omega,by omega,by simp,b1.2,b2.2⟩,?_⟩;rw[IU h1 h2,ah,u' (not_not_intro h1),u' (not_not_intro h2)];generalize bU a c 99=l;rfl
def PH(old:List Wnt)(new:List Wnt):PC Tryz.prog:=pcO 142 [(.s 3),(.s 3)] [.sl 3 (old.map Wnt.v) false,.sl 3 (new.map Wnt.v) false] (.a [(.s 3),.k]) DR (ah old new) (λ_=>⟨(uy old new),PG old new,by kernel_rfl⟩) rfl (by kernel_rfl)
def dp(o:Ovl)(r:Int)(w:List Wnt):Int×Int:=if ¬bF o then(0,1)else if r ∉ aC o.sp then(0,4)else(bi o.sp r,aI false w)
theorem iw{o:Ovl}(h:bF o)(r:Int):kU o.sp r↔r∈aC o.sp:=(mo (key:=Spk.router) h.1.asc).trans mem_keys.symm
def yg(r:Int×Int):AV:=.tup [.int r.1,.int r.2]
def qG(o:Ovl)(router:Int)(wants:List Wnt):Ax Tryz.prog noS (Int×Int):=
 (.callP (vh o)
(.br 96 (!(decide (bF o))) (.ret (0,1))
(.req 128 (o.sp.Pairwise λx y=>x.router<y.router) λh1 =>
(.req 128 (o.sp.length≤1000000) λh2 =>
(.callP (um o router h1 h2)
(.br 256 (!(decide (kU o.sp router))) (.ret (0,4))
(.callP (sV wants)
(.ret ((bi o.sp router:Int),aI false wants)))))))))
theorem LB(o:Ovl)(r:Int)(w:List Wnt):(qG o r w).vp yg (dp o r w):=by
 dsimp only[qG,noS,Ax.vp,Ax.vc];simp only[vcU,rfU,f'];unfold dp
 refine⟨λh=>?_,λh=>?_⟩
 ·rw[if_pos (by simpa using h)]
 have h:bF o:=by simpa using h
 rw[u' (not_not_intro h)];refine⟨h.1.asc,by have:=(dK.mp h).1;omega,?_⟩
 refine⟨λq=>?_,λq=>?_⟩
 ·have q:r ∉ aC o.sp:=by rw[←iw h];simpa using q
  rw[if_pos q]
 ·have q:r∈aC o.sp:=by rw[←iw h];simpa using q
  rw[u' (not_not_intro q)]
def LC(o:Ovl)(router:Int)(wants:List Wnt):PC Tryz.prog:=pcO 141 [(.a [(.s 5),(.s 3),(.s 10)]),.k,(.s 3)] [Ovl.v o,.int router,.sl 3 (wants.map Wnt.v) false] .k yg (dp o router wants) (λ_=>⟨(qG o router wants),LB o router wants,by kernel_rfl⟩) rfl (by kernel_rfl)
theorem PV{o:Ovl}{r:Int}{w:List Wnt}(h:(dp o r w).2=0):bF o∧r∈aC o.sp∧aI false w=0∧(dp o r w).1=bi o.sp r:=by
 unfold dp at h ⊢;by_cases h1:bF o
 case neg=>rw[if_pos h1]at h;simp at h
 by_cases h2:r∈aC o.sp
 case neg=>rw[u' (not_not_intro h1),if_pos h2]at h;simp at h
 rw[u' (not_not_intro h1),u' (not_not_intro h2)]at h ⊢;exact⟨h1,h2,h,rfl⟩
theorem LA{o:Ovl}{r:Int}{w:List Wnt}(h:(dp o r w).2≠0):aS o r w=(je,(dp o r w).2)∧bE o r w=(je,(dp o r w).2):=by
 unfold dp aS bE at *
 by_cases h1:bF o
 case neg=>rw[if_pos h1,if_pos h1,if_pos h1];exact⟨rfl,rfl⟩
 rw[u' (not_not_intro h1)]at h ⊢;rw[u' (not_not_intro h1),u' (not_not_intro h1)];by_cases h2:r∈aC o.sp
 case neg=>rw[if_pos h2,if_pos h2,if_pos h2];exact⟨rfl,rfl⟩
 rw[u' (not_not_intro h2)]at h ⊢;rw[u' (not_not_intro h2),u' (not_not_intro h2),if_pos h];refine⟨rfl,?_⟩;have hs:=(h1.1.spo _ (h1.1.s h2).1).1;have e:(restart (atS o.sp r) w).2=aI false w:=by
  unfold restart;rw[u' (not_not_intro hs),if_pos h]
 rw[e,if_pos h]
theorem tG{o:Ovl}(h:bF o){r:Int}(hr:r∈aC o.sp):bi o.sp r<o.sp.length∧bi o.sp r<o.ls.length∧o.sp[bi o.sp r]?=some (atS o.sp r)∧o.ls[bi o.sp r]?=some (atL o.sp o.ls r):=by
 have h1:=((iw h r).mpr hr).1;have h2:=(dK.mp h).2.1
 refine⟨h1,by omega,?_,?_⟩
 ·unfold atS;rw[J',E' h1];rfl
 ·unfold atL;rw[J',E' (by omega)];rfl
def DT(r:Ovl×Int):AV:=.tup [Ovl.v r.1,.int r.2]
def u9(o:Ovl)(router:Int)(wants:List Wnt):Ax Tryz.prog noS (Ovl×Int):=
 (.callP (LC o router wants)
(.br 224 (((dp o router wants).2) != 0) (.ret ((⟨[],[],[]⟩:Ovl),(dp o router wants).2))
(.elI 272 Spk.v o.sp ((dp o router wants).1) λx1 =>
(.callP (oQ x1.items)
(.callP (PH (aq x1.items) wants)
(.br 480 (((ah (aq x1.items) wants).2) != 0) (.ret ((⟨[],[],[]⟩:Ovl),(ah (aq x1.items) wants).2))
(.elI 528 Spk.v o.sp ((dp o router wants).1) λx2 =>
(.callP (Lw x2 ((ah (aq x1.items) wants).1))
(.br 720 (((change x2 ((ah (aq x1.items) wants).1)).2) != 0) (.ret ((⟨[],[],[]⟩:Ovl),(change x2 ((ah (aq x1.items) wants).1)).2))
(.req 736 (bF o∧o.fl.length≤1000000) λh3 =>
(.callH [] (Tq o h3) 736
(.stJ 864 Spk.v o.sp ((dp o router wants).1) (λy4=>((change x2 ((ah (aq x1.items) wants).1)).1)) λy4 =>
(.fz 738 Sig.v o.fl (λ_=>rfl) (.fz 737 Lsn.v o.ls (λ_=>rfl) (.fz 736 Spk.v (o.sp.set (((dp o router wants).1).toNat) ((change x2 ((ah (aq x1.items) wants).1)).1)) (λ_=>rfl) (.ret ((⟨o.sp.set (((dp o router wants).1).toNat) ((change x2 ((ah (aq x1.items) wants).1)).1),o.ls,o.fl⟩:Ovl),0)))))))))))))))))
theorem PJ(o:Ovl)(r:Int)(w:List Wnt)(h:o.fl.length≤1000000):(u9 o r w).vp DT (aS o r w):=by
 dsimp only[u9,noS,Ax.vp,Ax.vc];simp only[vcU,rfU,f']
 refine⟨λq=>?_,λq=>?_⟩
 ·have q:(dp o r w).2≠0:=by simpa using q
  rw[(LA q).1];rfl
 obtain⟨h1,h2,h3,h4⟩:=PV (by simpa using q);obtain⟨p1,p2,p3,p4⟩:=tG h1 h2;rw[h4];simp only[Int.toNat_natCast];unfold aS;rw[u' (not_not_intro h1),u' (not_not_intro h2),u' (not_not_intro h3)];refine⟨by omega,by omega,λx hx=>?_⟩;cases p3.symm.trans hx
 refine⟨λc=>?_,λc=>⟨by omega,by omega,λy hy=>?_⟩⟩
 ·rw[if_pos (by simpa using c)];rfl
 rw[u' (by simpa using c)];cases p3.symm.trans hy
 refine⟨λd=>?_,λd=>?_⟩
 ·rw[if_pos (by simpa using d)];rfl
 rw[u' (by simpa using d)];exact⟨⟨h1,h⟩,by simp;omega,by omega,λz hz=>rfl⟩
def PK(o:Ovl)(router:Int)(wants:List Wnt)(h:o.fl.length≤1000000):PC Tryz.prog:=pcO 50 [(.a [(.s 5),(.s 3),(.s 10)]),.k,(.s 3)] [Ovl.v o,.int router,.sl 3 (wants.map Wnt.v) false] (.a [(.a [(.s 5),(.s 3),(.s 10)]),.k]) DT (aS o router wants) (λ_=>⟨(u9 o router wants),PJ o router wants h,by kernel_rfl⟩) rfl (by kernel_rfl)
def CH(l:List Sig)(f:List Fau):Prop:=l.length≤500000∧f.length≤1000∧∀x∈l,x.srcs.length≤1000000
end Go.Proofs.YtiobpjoadkfhdaaGreatDoor
