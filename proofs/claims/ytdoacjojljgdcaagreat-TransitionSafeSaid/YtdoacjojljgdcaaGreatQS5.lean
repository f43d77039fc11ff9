/- Texts joined: RD2 RD3 Mx7. -/
import Derived.Shelf.SlSortCmp.NoneTotal
import Derived.Shelf.SlSortCmp.WholeK
import Derived.Test.YtdoacjojljgdcaaGreatQS4
set_option linter.unusedVariables false
set_option linter.unusedSimpArgs false
set_option linter.unusedSectionVars false
namespace Go.Proofs.YtdoacjojljgdcaaGreat
open Go Go.Am
def E5:AC:=.dreg [⟨(some 35),.faddr 0 (.t 3),none⟩,⟨(some 36),.load false 1 (.t 35),none⟩,⟨(some 37),.faddr 0 (.t 7),none⟩,⟨(some 38),.load false 1 (.t 37),none⟩,⟨(some 39),.faddr 0 (.t 3),none⟩,⟨(some 40),.load false 1 (.t 39),none⟩,⟨(some 41),.faddr 0 (.t 7),none⟩,⟨(some 42),.load false 1 (.t 41),none⟩,⟨(some 43),.mget none ((.sl 0 [] true)) false (.t 40) (.t 42),none⟩,⟨(some 44),.faddr 1 (.t 7),none⟩,⟨(some 45),.load false 1 (.t 44),none⟩,⟨(some 46),.faddr 2 (.t 7),none⟩,⟨(some 47),.load false 1 (.t 46),none⟩,⟨(some 48),.build [(.val (.int .i64 0)),(.val (.int .i64 0))] [(0,1,(.t 45)),(1,1,(.t 47))],none⟩,⟨(some 49),.lit 2 1 (.agg [(.val (.int .i64 0)),(.val (.int .i64 0))]) [(0,(.t 48))],none⟩,⟨(some 50),.append 2 16 (.t 43) (.t 49),none⟩,⟨none,.mset none (.t 36) (.t 38) (.t 50),none⟩] [(1,3),(1,5),(3,5),(1,7),(3,7),(5,7),(1,8),(3,8),(1,10),(3,10),(5,10),(7,10),(8,10),(1,12),(3,12),(5,12),(7,12),(8,12),(10,12),(1,14),(3,14),(5,14),(7,14),(8,14),(1,15),(3,15)]
def E4:AC:=.dreg [⟨(some 51),.faddr 0 (.t 3),none⟩,⟨(some 52),.load false 1 (.t 51),none⟩,⟨(some 53),.faddr 1 (.t 7),none⟩,⟨(some 54),.load false 1 (.t 53),none⟩,⟨(some 55),.faddr 0 (.t 3),none⟩,⟨(some 56),.load false 1 (.t 55),none⟩,⟨(some 57),.faddr 1 (.t 7),none⟩,⟨(some 58),.load false 1 (.t 57),none⟩,⟨(some 59),.mget none ((.sl 0 [] true)) false (.t 56) (.t 58),none⟩,⟨(some 60),.faddr 0 (.t 7),none⟩,⟨(some 61),.load false 1 (.t 60),none⟩,⟨(some 62),.faddr 3 (.t 7),none⟩,⟨(some 63),.load false 1 (.t 62),none⟩,⟨(some 64),.build [(.val (.int .i64 0)),(.val (.int .i64 0))] [(0,1,(.t 61)),(1,1,(.t 63))],none⟩,⟨(some 65),.lit 2 1 (.agg [(.val (.int .i64 0)),(.val (.int .i64 0))]) [(0,(.t 64))],none⟩,⟨(some 66),.append 2 16 (.t 59) (.t 65),none⟩,⟨none,.mset none (.t 52) (.t 54) (.t 66),none⟩] [(1,3),(1,5),(3,5),(1,7),(3,7),(5,7),(1,8),(3,8),(1,10),(3,10),(5,10),(7,10),(8,10),(1,12),(3,12),(5,12),(7,12),(8,12),(10,12),(1,14),(3,14),(5,14),(7,14),(8,14),(1,15),(3,15)]
def E3:AC:=.dreg [⟨(some 67),.faddr 1 (.t 3),none⟩,⟨(some 68),.load false 1 (.t 67),none⟩,⟨(some 69),.faddr 1 (.t 7),none⟩,⟨(some 70),.load false 1 (.t 69),none⟩,⟨(some 71),.faddr 1 (.t 3),none⟩,⟨(some 72),.load false 1 (.t 71),none⟩,⟨(some 73),.faddr 1 (.t 7),none⟩,⟨(some 74),.load false 1 (.t 73),none⟩,⟨(some 75),.mget none ((.sl 0 [] true)) false (.t 72) (.t 74),none⟩,⟨(some 76),.faddr 0 (.t 7),none⟩,⟨(some 77),.load false 1 (.t 76),none⟩,⟨(some 78),.faddr 2 (.t 7),none⟩,⟨(some 79),.load false 1 (.t 78),none⟩,⟨(some 80),.build [(.val (.int .i64 0)),(.val (.int .i64 0))] [(0,1,(.t 77)),(1,1,(.t 79))],none⟩,⟨(some 81),.lit 2 1 (.agg [(.val (.int .i64 0)),(.val (.int .i64 0))]) [(0,(.t 80))],none⟩,⟨(some 82),.append 2 16 (.t 75) (.t 81),none⟩,⟨none,.mset none (.t 68) (.t 70) (.t 82),none⟩] [(1,3),(1,5),(3,5),(1,7),(3,7),(5,7),(1,8),(3,8),(1,10),(3,10),(5,10),(7,10),(8,10),(1,12),(3,12),(5,12),(7,12),(8,12),(10,12),(1,14),(3,14),(5,14),(7,14),(8,14),(1,15),(3,15)]
def E2:AC:=.dreg [⟨(some 83),.faddr 1 (.t 3),none⟩,⟨(some 84),.load false 1 (.t 83),none⟩,⟨(some 85),.faddr 0 (.t 7),none⟩,⟨(some 86),.load false 1 (.t 85),none⟩,⟨(some 87),.faddr 1 (.t 3),none⟩,⟨(some 88),.load false 1 (.t 87),none⟩,⟨(some 89),.faddr 0 (.t 7),none⟩,⟨(some 90),.load false 1 (.t 89),none⟩,⟨(some 91),.mget none ((.sl 0 [] true)) false (.t 88) (.t 90),none⟩,⟨(some 92),.faddr 1 (.t 7),none⟩,⟨(some 93),.load false 1 (.t 92),none⟩,⟨(some 94),.faddr 3 (.t 7),none⟩,⟨(some 95),.load false 1 (.t 94),none⟩,⟨(some 96),.build [(.val (.int .i64 0)),(.val (.int .i64 0))] [(0,1,(.t 93)),(1,1,(.t 95))],none⟩,⟨(some 97),.lit 2 1 (.agg [(.val (.int .i64 0)),(.val (.int .i64 0))]) [(0,(.t 96))],none⟩,⟨(some 98),.append 2 16 (.t 91) (.t 97),none⟩,⟨none,.mset none (.t 84) (.t 86) (.t 98),none⟩] [(1,3),(1,5),(3,5),(1,7),(3,7),(5,7),(1,8),(3,8),(1,10),(3,10),(5,10),(7,10),(8,10),(1,12),(3,12),(5,12),(7,12),(8,12),(10,12),(1,14),(3,14),(5,14),(7,14),(8,14),(1,15),(3,15)]
def rdL(t:Tpl)(l:Lnk)(ids:List Int)(a b:List AV):List (Option Blk):=
 [some (.box (Tpl.v t)),some (.box (.agg [.val (.map none),.val (.map none)])),some (.box (.agg [.mref 3,.mref 4])),some (.map none (kyN ids) a),some (.map none (kyN ids) b),some (.box (Lnk.v l))]
def rdT(t:Tpl)(l:Lnk)(i:Nat)(M:List (List Stp)):S3:=
 ⟨cL [(1,.ref 0 0),(2,.ref 1 0),(3,.ref 2 0),(7,.ref 5 0),(29,.sl 5 (t.ls.map Lnk.v) false),(30,.int t.ls.length),(31,.int (i:Nat))],GS M (hpL 0 (rdL t l (t.rs.map (·.id)) (evN t.rs.length) (odN t.rs.length))),2000⟩
theorem tg{t:Tpl}{l:Lnk}{ids:List Int}{n:Nat}{hp:Hp}{bs fs:Nat→Nat}{a b:List AV}(hbs:bs 0=0∧bs 1=1∧bs 2=2∧bs 3=3∧bs 4=4)(hn:n≤400)(h0:hp 0=some (.box (Tpl.v t)))(h1:hp 1=some (.box (.agg [.val (.map none),.val (.map none)])))(h2:hp 2=some (.box (.agg [.mref 3,.mref 4])))
  (h3:hp 3=some (.map none (kyN ids) a)) (h4:hp 4=some (.map none (kyN ids) b)) (h5:hp (bs 5)=some (.box (Lnk.v l))) (ha:a=(List.range n).map λi=>.vec (fs (2 * i))) (hb:b=(List.range n).map λi=>.vec (fs (2 * i+1))) :
  ∀i x,(rdL t l ids (evN n) (odN n))[i]?=some (some x)→hp (bs i)=some (x.ren (fm bs fs))∧x.bel 2000:=by
 obtain⟨b0,b1,b2,b3,b4⟩:=hbs
 have e3:fm bs fs 3=3:=by rw[eN (by omega),b3]
 have e4:fm bs fs 4=4:=by rw[eN (by omega),b4]
 intro i x h
 rcases i with _|_|_|_|_|_|i
 ·cases h;exact⟨by rw[b0];exact h0,⟨trivial,trivial,trivial⟩⟩
 ·cases h;exact⟨by rw[b1];exact h1,⟨trivial,trivial,trivial⟩⟩
 ·cases h;exact⟨by rw[b2,h2];show _=some (Blk.box (.agg [.mref (fm bs fs 3),.mref (fm bs fs 4)]));rw[e3,e4],⟨show 3<2000 by omega,show 4<2000 by omega,trivial⟩⟩
 ·cases h;exact⟨by show hp (bs 3)=_;rw[b3,h3,Blk.ren,rD hn,ha],rF hn⟩
 ·cases h;exact⟨by show hp (bs 4)=_;rw[b4,h4,Blk.ren,qy hn,hb],qz hn⟩
 ·cases h;exact⟨h5,trivial,trivial,trivial,trivial,trivial,trivial⟩
 ·simp[rdL]at h
def apR(M:List (List Stp))(x:Nat)(s:Stp):List (List Stp):=M.set x (M.getD x []++[s])
theorem ia(M:List (List Stp))(x:Nat)(s:Stp):(apR M x s).length=M.length:=by simp[apR]
theorem kC{ids:List Int}(hn:ids.Nodup){x:Nat}{a:Int}(h:ids[x]?=some a):MK.n a∈kyN ids∧(kyN ids).idxOf (MK.n a)=x:=by
 have h2:(kyN ids)[x]?=some (MK.n a):=by rw[kyN,List.getElem?_map,h];rfl
 refine⟨List.mem_of_getElem? h2,nH ?_ h2⟩
 exact List.Pairwise.map MK.n (λa b h e=>h (MK.n.inj e)) hn
theorem rE{n x:Nat}(h:x<n):(evN n).getD x .unk=.vec (Fr (2 * x)):=by simp[evN,List.getD_eq_getElem?_getD,h]
theorem AA{n x:Nat}(h:x<n):(odN n).getD x .unk=.vec (Fr (2 * x+1)):=by simp[odN,List.getD_eq_getElem?_getD,h]
theorem K8(n x m:Nat)(h:x<n):(evN n).set x (.vec m)=(List.range n).map λi=>.vec ((λj=>if j=2 * x then m else Fr j) (2 * i)):=by
 refine List.ext_getElem? λi=>?_
 rw[List.getElem?_set,evN,List.getElem?_map,List.getElem?_map,List.length_map,List.length_range]
 by_cases e:x=i
 ·subst e;simp[h]
 ·rw[if_neg e]
  by_cases hi:i<n
  ·simp[hi,show ¬2 * i=2 * x by omega]
  ·simp[hi]
theorem Gp(n x m:Nat):evN n=(List.range n).map λi=>.vec ((λj=>if j=2 * x+1 then m else Fr j) (2 * i)):=by
 refine List.map_congr_left λi _=>?_
 simp only;rw[if_neg (by omega)]
theorem JK(n x m:Nat)(h:x<n):(odN n).set x (.vec m)=(List.range n).map λi=>.vec ((λj=>if j=2 * x+1 then m else Fr j) (2 * i+1)):=by
 refine List.ext_getElem? λi=>?_
 rw[List.getElem?_set,odN,List.getElem?_map,List.getElem?_map,List.length_map,List.length_range]
 by_cases e:x=i
 ·subst e;simp[h]
 ·rw[if_neg e]
  by_cases hi:i<n
  ·simp[hi];intro h;omega
  ·simp[hi]
theorem Fe(n x m:Nat):odN n=(List.range n).map λi=>.vec ((λj=>if j=2 * x then m else Fr j) (2 * i+1)):=by
 refine List.map_congr_left λi _=>?_
 simp only;rw[if_neg (by omega)]
theorem rdu1{n x m:Nat}(hx:x<n):(evN n).set x (.vec m)=(List.range n).map λi=>.vec ((λj=>if j=2 * x then m else Fr j) (2 * i)):=K8 n x m hx
theorem rdu2{n x m:Nat}(hx:x<n):odN n=(List.range n).map λi=>.vec ((λj=>if j=2 * x then m else Fr j) (2 * i+1)):=Fe n x m
theorem rdu3{n x m:Nat}(hx:x<n):evN n=(List.range n).map λi=>.vec ((λj=>if j=2 * x+1 then m else Fr j) (2 * i)):=Gp n x m
theorem rdu4{n x m:Nat}(hx:x<n):(odN n).set x (.vec m)=(List.range n).map λi=>.vec ((λj=>if j=2 * x+1 then m else Fr j) (2 * i+1)):=JK n x m hx
theorem rd_a1(t:Tpl)(hc:aD t=0)(l:Lnk)(i:Nat)(M:List (List Stp))(hM:M.length=2 * t.rs.length)(hr:∀r∈M,r.length≤100000){x:Nat}(hx:(t.rs.map (·.id))[x]?=some l.a)(k:Nat){Q:X→S3→Prop}
    (hQ:∀s,aA 0 k s (rdT t l i (apR M (2*x) ⟨l.b,l.ca⟩))→Q .normal s):AWP Tryz.prog 0 k E5 Q (rdT t l i M):=by
  have hO:=aC hc
  have hR:=hO.nr
  have hxl:x<t.rs.length:=by have:=ap hx;rwa [List.length_map]at this
  have hnd:(t.rs.map (·.id)).Nodup:=List.Pairwise.map _ (λa b h=>by omega) hO.asc
  obtain⟨hk1,hk2⟩:=kC hnd hx
  obtain⟨row,hrow⟩:∃row,M[2*x]?=some row:=⟨M[2*x]'(by omega),List.getElem?_eq_getElem (by omega)⟩
  have hrl:=hr row (List.mem_of_getElem? hrow)
  unfold rdT E5
  generalize hids:t.rs.map (·.id)=ids at *
  have hG0:∀b,b<1000→GS M (hpL 0 (rdL t l ids (evN t.rs.length) (odN t.rs.length))) b=hpL 0 (rdL t l ids (evN t.rs.length) (odN t.rs.length)) b:=λb hb=>lZ hb
  have g2:GS M (hpL 0 (rdL t l ids (evN t.rs.length) (odN t.rs.length))) 2=some (.box (.agg [.mref 3,.mref 4])):=hG0 2 (by decide)
  have g3:GS M (hpL 0 (rdL t l ids (evN t.rs.length) (odN t.rs.length))) 3=some (.map none (kyN ids) (evN t.rs.length)):=hG0 3 (by decide)
  have g4:GS M (hpL 0 (rdL t l ids (evN t.rs.length) (odN t.rs.length))) 4=some (.map none (kyN ids) (odN t.rs.length)):=hG0 4 (by decide)
  have g5:GS M (hpL 0 (rdL t l ids (evN t.rs.length) (odN t.rs.length))) 5=some (.box (.agg [.int l.a,.int l.b,.int l.ca,.int l.cb,.int l.w])):=hG0 5 (by decide)
  have gF:GS M (hpL 0 (rdL t l ids (evN t.rs.length) (odN t.rs.length))) (Fr (2*x))=some (.vec 2 (row.map Stp.v)):=ic hrow (by omega)
  have hmg:cZ (kyN ids) (evN t.rs.length) (MK.n l.a) (.sl 0 [] true) false=.vec (Fr (2*x)):=by
    unfold cZ;rw[if_pos hk1,hk2,rE hxl];rfl
  have hms:∀v,dO none (kyN ids) (evN t.rs.length) (MK.n l.a) v=  .map none (kyN ids) ((evN t.rs.length).set x v):=λv=>by
    unfold dO;rw[if_pos hk1,hk2]
  have hml:=bv
  refine AWP.dreg' λK hK=>?_
  try simp only[ak,ao,am,eq_self,implies_true,forall_eq_or_imp,forall_eq,Nat.reduceEqDiff,↓reduceIte,Nat.reduceAdd,Nat.reduceLeDiff,Nat.reduceSub,Nat.reduceMul,Nat.reduceLT,Int.reduceBEq,Int.reduceBNe,Int.reduceToNat,Int.reduceLT,Int.reduceLE,Int.reduceAdd,Int.reduceSub,Int.reduceMul,reduceCtorEq,g2,g3,g4,g5,bL,bx,dI,AV.key,MK.fits,hmg,hms,gF,and_self,true_and]
  refine gX ?_
  have hap:∀xs f,bt (GS M (hpL 0 (rdL t l ids (evN t.rs.length) (odN t.rs.length)))) f 2 16 (.vec (Fr (2*x))) (some xs)={ c:=(row.length+xs.length) * 16≤2 ^ 47∧row.length+xs.length≤maxLen,v:=.vec f,rm:=some (Fr (2*x)),ad:=some (f,.vec 2 (row.map Stp.v++xs)) }:=λxs f=>by
    simp[bt,gF]
  try simp only[ak,ao,am,eq_self,implies_true,forall_eq_or_imp,forall_eq,Nat.reduceEqDiff,↓reduceIte,Nat.reduceAdd,Nat.reduceLeDiff,Nat.reduceSub,Nat.reduceMul,Nat.reduceLT,Int.reduceBEq,Int.reduceBNe,Int.reduceToNat,Int.reduceLT,Int.reduceLE,Int.reduceAdd,Int.reduceSub,Int.reduceMul,reduceCtorEq,gF,g2,g3,g4,g5,hap,hms,bL,AV.key,MK.fits,and_self,true_and,ec,bO (show 3<1000 by omega),if_false]
  refine⟨⟨by omega,by omega⟩,?_⟩
  refine⟨?_,hK _ _ _ (hQ _ ?_)⟩
  · have e2:∀n,n<1000→(Fr (2*x)==n)=false:=λn hn=>by simp[Fr];omega
    have e3:∀n,n<1000→(n==Fr (2*x))=false:=λn hn=>by simp[Fr];omega
    simp[ig,oa,bK,AOp.opers,aS,evO,ah,e2,e3]
    unfold Fr;omega
  have hap':apR M (2*x) ⟨l.b,l.ca⟩=M.set (2*x) (row++[⟨l.b,l.ca⟩]):=by unfold apR;rw[List.getD_eq_getElem?_getD,hrow];rfl
  rw[hap']
  refine aA.nfR cF _ _ _ (λb=>b) (λj=>if j=2*x then 2240 else Fr j) ?_
    (tg ⟨rfl,rfl,rfl,rfl,rfl⟩ (by omega) ?_ ?_ ?_ ?_ ?_ ?_ (rdu1 (hx:=hxl)) (rdu2 (hx:=hxl))) (by simp[rdL]) (by simp;omega) ?_ (λi j _ _ h=>h) ?_ ?_ (λb _=>rfl) (by decide)
  · simp only[List.forall_mem_cons,List.not_mem_nil,false_implies,implies_true,and_true]
    exact⟨⟨rfl,show 0<2000 by omega⟩,⟨rfl,show 1<2000 by omega⟩,⟨rfl,show 2<2000 by omega⟩,⟨rfl,show 5<2000 by omega⟩,⟨rfl,trivial⟩,⟨rfl,trivial⟩,rfl,trivial⟩
  · simp only[ah,bO (show 0<1000 by omega),if_false];exact hG0 0 (by decide)
  · simp only[ah,bO (show 1<1000 by omega),if_false];exact hG0 1 (by decide)
  · simp only[ah,bO (show 2<1000 by omega),if_false];exact hG0 2 (by decide)
  · rw[hids];first|(simp only[ah,if_true];done)|(simp only[ah,bO (show 3<1000 by omega),if_false];exact hG0 3 (by decide))
  · rw[hids];first|(simp only[ah,if_true];done)|(simp only[ah,bO (show 4<1000 by omega),if_false];exact hG0 4 (by decide))
  · simp only[ah,bO (show 5<1000 by omega),if_false];exact hG0 5 (by decide)
  · intro j q hj
    have hjl:=ap hj
    rw[List.length_set]at hjl
    rw[List.getElem?_set]at hj
    by_cases e:j=2*x
    · subst e
      rw[if_pos rfl,if_pos (by omega)]at hj
      cases hj
      simp only[ah,if_true]
      simp[il]
      rfl
    · rw[if_neg (λh=>e h.symm)]at hj
      simp only[if_neg e,ah,pk (show 3<1000 by omega),il (show j<1000 by omega) (show 2000≤2240 by omega),sF,e,if_false]
      exact ic hj (by omega)
  · intro a b ha hb he
    simp at ha hb
    unfold Fr at he
    (repeat' split at he)<;>omega
  · intro a b ha hb he
    simp only[rdL,List.length_cons,List.length_nil]at ha
    unfold Fr at he
    (repeat' split at he)<;>omega
theorem rd_a2(t:Tpl)(hc:aD t=0)(l:Lnk)(i:Nat)(M:List (List Stp))(hM:M.length=2 * t.rs.length)(hr:∀r∈M,r.length≤100000){x:Nat}(hx:(t.rs.map (·.id))[x]?=some l.b)(k:Nat){Q:X→S3→Prop}
    (hQ:∀s,aA 0 k s (rdT t l i (apR M (2*x) ⟨l.a,l.cb⟩))→Q .normal s):AWP Tryz.prog 0 k E4 Q (rdT t l i M):=by
  have hO:=aC hc
  have hR:=hO.nr
  have hxl:x<t.rs.length:=by have:=ap hx;rwa [List.length_map]at this
  have hnd:(t.rs.map (·.id)).Nodup:=List.Pairwise.map _ (λa b h=>by omega) hO.asc
  obtain⟨hk1,hk2⟩:=kC hnd hx
  obtain⟨row,hrow⟩:∃row,M[2*x]?=some row:=⟨M[2*x]'(by omega),List.getElem?_eq_getElem (by omega)⟩
  have hrl:=hr row (List.mem_of_getElem? hrow)
  unfold rdT E4
  generalize hids:t.rs.map (·.id)=ids at *
  have hG0:∀b,b<1000→GS M (hpL 0 (rdL t l ids (evN t.rs.length) (odN t.rs.length))) b=hpL 0 (rdL t l ids (evN t.rs.length) (odN t.rs.length)) b:=λb hb=>lZ hb
  have g2:GS M (hpL 0 (rdL t l ids (evN t.rs.length) (odN t.rs.length))) 2=some (.box (.agg [.mref 3,.mref 4])):=hG0 2 (by decide)
  have g3:GS M (hpL 0 (rdL t l ids (evN t.rs.length) (odN t.rs.length))) 3=some (.map none (kyN ids) (evN t.rs.length)):=hG0 3 (by decide)
  have g4:GS M (hpL 0 (rdL t l ids (evN t.rs.length) (odN t.rs.length))) 4=some (.map none (kyN ids) (odN t.rs.length)):=hG0 4 (by decide)
  have g5:GS M (hpL 0 (rdL t l ids (evN t.rs.length) (odN t.rs.length))) 5=some (.box (.agg [.int l.a,.int l.b,.int l.ca,.int l.cb,.int l.w])):=hG0 5 (by decide)
  have gF:GS M (hpL 0 (rdL t l ids (evN t.rs.length) (odN t.rs.length))) (Fr (2*x))=some (.vec 2 (row.map Stp.v)):=ic hrow (by omega)
  have hmg:cZ (kyN ids) (evN t.rs.length) (MK.n l.b) (.sl 0 [] true) false=.vec (Fr (2*x)):=by
    unfold cZ;rw[if_pos hk1,hk2,rE hxl];rfl
  have hms:∀v,dO none (kyN ids) (evN t.rs.length) (MK.n l.b) v=  .map none (kyN ids) ((evN t.rs.length).set x v):=λv=>by
    unfold dO;rw[if_pos hk1,hk2]
  have hml:=bv
  refine AWP.dreg' λK hK=>?_
  try simp only[ak,ao,am,eq_self,implies_true,forall_eq_or_imp,forall_eq,Nat.reduceEqDiff,↓reduceIte,Nat.reduceAdd,Nat.reduceLeDiff,Nat.reduceSub,Nat.reduceMul,Nat.reduceLT,Int.reduceBEq,Int.reduceBNe,Int.reduceToNat,Int.reduceLT,Int.reduceLE,Int.reduceAdd,Int.reduceSub,Int.reduceMul,reduceCtorEq,g2,g3,g4,g5,bL,bx,dI,AV.key,MK.fits,hmg,hms,gF,and_self,true_and]
  refine gX ?_
  have hap:∀xs f,bt (GS M (hpL 0 (rdL t l ids (evN t.rs.length) (odN t.rs.length)))) f 2 16 (.vec (Fr (2*x))) (some xs)={ c:=(row.length+xs.length) * 16≤2 ^ 47∧row.length+xs.length≤maxLen,v:=.vec f,rm:=some (Fr (2*x)),ad:=some (f,.vec 2 (row.map Stp.v++xs)) }:=λxs f=>by
    simp[bt,gF]
  try simp only[ak,ao,am,eq_self,implies_true,forall_eq_or_imp,forall_eq,Nat.reduceEqDiff,↓reduceIte,Nat.reduceAdd,Nat.reduceLeDiff,Nat.reduceSub,Nat.reduceMul,Nat.reduceLT,Int.reduceBEq,Int.reduceBNe,Int.reduceToNat,Int.reduceLT,Int.reduceLE,Int.reduceAdd,Int.reduceSub,Int.reduceMul,reduceCtorEq,gF,g2,g3,g4,g5,hap,hms,bL,AV.key,MK.fits,and_self,true_and,ec,bO (show 3<1000 by omega),if_false]
  refine⟨⟨by omega,by omega⟩,?_⟩
  refine⟨?_,hK _ _ _ (hQ _ ?_)⟩
  · have e2:∀n,n<1000→(Fr (2*x)==n)=false:=λn hn=>by simp[Fr];omega
    have e3:∀n,n<1000→(n==Fr (2*x))=false:=λn hn=>by simp[Fr];omega
    simp[ig,oa,bK,AOp.opers,aS,evO,ah,e2,e3]
    unfold Fr;omega
  have hap':apR M (2*x) ⟨l.a,l.cb⟩=M.set (2*x) (row++[⟨l.a,l.cb⟩]):=by unfold apR;rw[List.getD_eq_getElem?_getD,hrow];rfl
  rw[hap']
  refine aA.nfR cF _ _ _ (λb=>b) (λj=>if j=2*x then 2240 else Fr j) ?_
    (tg ⟨rfl,rfl,rfl,rfl,rfl⟩ (by omega) ?_ ?_ ?_ ?_ ?_ ?_ (rdu1 (hx:=hxl)) (rdu2 (hx:=hxl))) (by simp[rdL]) (by simp;omega) ?_ (λi j _ _ h=>h) ?_ ?_ (λb _=>rfl) (by decide)
  · simp only[List.forall_mem_cons,List.not_mem_nil,false_implies,implies_true,and_true]
    exact⟨⟨rfl,show 0<2000 by omega⟩,⟨rfl,show 1<2000 by omega⟩,⟨rfl,show 2<2000 by omega⟩,⟨rfl,show 5<2000 by omega⟩,⟨rfl,trivial⟩,⟨rfl,trivial⟩,rfl,trivial⟩
  · simp only[ah,bO (show 0<1000 by omega),if_false];exact hG0 0 (by decide)
  · simp only[ah,bO (show 1<1000 by omega),if_false];exact hG0 1 (by decide)
  · simp only[ah,bO (show 2<1000 by omega),if_false];exact hG0 2 (by decide)
  · rw[hids];first|(simp only[ah,if_true];done)|(simp only[ah,bO (show 3<1000 by omega),if_false];exact hG0 3 (by decide))
  · rw[hids];first|(simp only[ah,if_true];done)|(simp only[ah,bO (show 4<1000 by omega),if_false];exact hG0 4 (by decide))
  · simp only[ah,bO (show 5<1000 by omega),if_false];exact hG0 5 (by decide)
  · intro j q hj
    have hjl:=ap hj
    rw[List.length_set]at hjl
    rw[List.getElem?_set]at hj
    by_cases e:j=2*x
    · subst e
      rw[if_pos rfl,if_pos (by omega)]at hj
      cases hj
      simp only[ah,if_true]
      simp[il]
      rfl
    · rw[if_neg (λh=>e h.symm)]at hj
      simp only[if_neg e,ah,pk (show 3<1000 by omega),il (show j<1000 by omega) (show 2000≤2240 by omega),sF,e,if_false]
      exact ic hj (by omega)
  · intro a b ha hb he
    simp at ha hb
    unfold Fr at he
    (repeat' split at he)<;>omega
  · intro a b ha hb he
    simp only[rdL,List.length_cons,List.length_nil]at ha
    unfold Fr at he
    (repeat' split at he)<;>omega
theorem rd_a3(t:Tpl)(hc:aD t=0)(l:Lnk)(i:Nat)(M:List (List Stp))(hM:M.length=2 * t.rs.length)(hr:∀r∈M,r.length≤100000){x:Nat}(hx:(t.rs.map (·.id))[x]?=some l.b)(k:Nat){Q:X→S3→Prop}
    (hQ:∀s,aA 0 k s (rdT t l i (apR M (2*x+1) ⟨l.a,l.ca⟩))→Q .normal s):AWP Tryz.prog 0 k E3 Q (rdT t l i M):=by
  have hO:=aC hc
  have hR:=hO.nr
  have hxl:x<t.rs.length:=by have:=ap hx;rwa [List.length_map]at this
  have hnd:(t.rs.map (·.id)).Nodup:=List.Pairwise.map _ (λa b h=>by omega) hO.asc
  obtain⟨hk1,hk2⟩:=kC hnd hx
  obtain⟨row,hrow⟩:∃row,M[2*x+1]?=some row:=⟨M[2*x+1]'(by omega),List.getElem?_eq_getElem (by omega)⟩
  have hrl:=hr row (List.mem_of_getElem? hrow)
  unfold rdT E3
  generalize hids:t.rs.map (·.id)=ids at *
  have hG0:∀b,b<1000→GS M (hpL 0 (rdL t l ids (evN t.rs.length) (odN t.rs.length))) b=hpL 0 (rdL t l ids (evN t.rs.length) (odN t.rs.length)) b:=λb hb=>lZ hb
  have g2:GS M (hpL 0 (rdL t l ids (evN t.rs.length) (odN t.rs.length))) 2=some (.box (.agg [.mref 3,.mref 4])):=hG0 2 (by decide)
  have g3:GS M (hpL 0 (rdL t l ids (evN t.rs.length) (odN t.rs.length))) 3=some (.map none (kyN ids) (evN t.rs.length)):=hG0 3 (by decide)
  have g4:GS M (hpL 0 (rdL t l ids (evN t.rs.length) (odN t.rs.length))) 4=some (.map none (kyN ids) (odN t.rs.length)):=hG0 4 (by decide)
  have g5:GS M (hpL 0 (rdL t l ids (evN t.rs.length) (odN t.rs.length))) 5=some (.box (.agg [.int l.a,.int l.b,.int l.ca,.int l.cb,.int l.w])):=hG0 5 (by decide)
  have gF:GS M (hpL 0 (rdL t l ids (evN t.rs.length) (odN t.rs.length))) (Fr (2*x+1))=some (.vec 2 (row.map Stp.v)):=ic hrow (by omega)
  have hmg:cZ (kyN ids) (odN t.rs.length) (MK.n l.b) (.sl 0 [] true) false=.vec (Fr (2*x+1)):=by
    unfold cZ;rw[if_pos hk1,hk2,AA hxl];rfl
  have hms:∀v,dO none (kyN ids) (odN t.rs.length) (MK.n l.b) v=  .map none (kyN ids) ((odN t.rs.length).set x v):=λv=>by
    unfold dO;rw[if_pos hk1,hk2]
  have hml:=bv
  refine AWP.dreg' λK hK=>?_
  try simp only[ak,ao,am,eq_self,implies_true,forall_eq_or_imp,forall_eq,Nat.reduceEqDiff,↓reduceIte,Nat.reduceAdd,Nat.reduceLeDiff,Nat.reduceSub,Nat.reduceMul,Nat.reduceLT,Int.reduceBEq,Int.reduceBNe,Int.reduceToNat,Int.reduceLT,Int.reduceLE,Int.reduceAdd,Int.reduceSub,Int.reduceMul,reduceCtorEq,g2,g3,g4,g5,bL,bx,dI,AV.key,MK.fits,hmg,hms,gF,and_self,true_and]
  refine gX ?_
  have hap:∀xs f,bt (GS M (hpL 0 (rdL t l ids (evN t.rs.length) (odN t.rs.length)))) f 2 16 (.vec (Fr (2*x+1))) (some xs)={ c:=(row.length+xs.length) * 16≤2 ^ 47∧row.length+xs.length≤maxLen,v:=.vec f,rm:=some (Fr (2*x+1)),ad:=some (f,.vec 2 (row.map Stp.v++xs)) }:=λxs f=>by
    simp[bt,gF]
  try simp only[ak,ao,am,eq_self,implies_true,forall_eq_or_imp,forall_eq,Nat.reduceEqDiff,↓reduceIte,Nat.reduceAdd,Nat.reduceLeDiff,Nat.reduceSub,Nat.reduceMul,Nat.reduceLT,Int.reduceBEq,Int.reduceBNe,Int.reduceToNat,Int.reduceLT,Int.reduceLE,Int.reduceAdd,Int.reduceSub,Int.reduceMul,reduceCtorEq,gF,g2,g3,g4,g5,hap,hms,bL,AV.key,MK.fits,and_self,true_and,ec,bO (show 4<1000 by omega),if_false]
  refine⟨⟨by omega,by omega⟩,?_⟩
  refine⟨?_,hK _ _ _ (hQ _ ?_)⟩
  · have e2:∀n,n<1000→(Fr (2*x+1)==n)=false:=λn hn=>by simp[Fr];omega
    have e3:∀n,n<1000→(n==Fr (2*x+1))=false:=λn hn=>by simp[Fr];omega
    simp[ig,oa,bK,AOp.opers,aS,evO,ah,e2,e3]
    unfold Fr;omega
  have hap':apR M (2*x+1) ⟨l.a,l.ca⟩=M.set (2*x+1) (row++[⟨l.a,l.ca⟩]):=by unfold apR;rw[List.getD_eq_getElem?_getD,hrow];rfl
  rw[hap']
  refine aA.nfR cF _ _ _ (λb=>b) (λj=>if j=2*x+1 then 2240 else Fr j) ?_
    (tg ⟨rfl,rfl,rfl,rfl,rfl⟩ (by omega) ?_ ?_ ?_ ?_ ?_ ?_ (rdu3 (hx:=hxl)) (rdu4 (hx:=hxl))) (by simp[rdL]) (by simp;omega) ?_ (λi j _ _ h=>h) ?_ ?_ (λb _=>rfl) (by decide)
  · simp only[List.forall_mem_cons,List.not_mem_nil,false_implies,implies_true,and_true]
    exact⟨⟨rfl,show 0<2000 by omega⟩,⟨rfl,show 1<2000 by omega⟩,⟨rfl,show 2<2000 by omega⟩,⟨rfl,show 5<2000 by omega⟩,⟨rfl,trivial⟩,⟨rfl,trivial⟩,rfl,trivial⟩
  · simp only[ah,bO (show 0<1000 by omega),if_false];exact hG0 0 (by decide)
  · simp only[ah,bO (show 1<1000 by omega),if_false];exact hG0 1 (by decide)
  · simp only[ah,bO (show 2<1000 by omega),if_false];exact hG0 2 (by decide)
  · rw[hids];first|(simp only[ah,if_true];done)|(simp only[ah,bO (show 3<1000 by omega),if_false];exact hG0 3 (by decide))
  · rw[hids];first|(simp only[ah,if_true];done)|(simp only[ah,bO (show 4<1000 by omega),if_false];exact hG0 4 (by decide))
  · simp only[ah,bO (show 5<1000 by omega),if_false];exact hG0 5 (by decide)
  · intro j q hj
    have hjl:=ap hj
    rw[List.length_set]at hjl
    rw[List.getElem?_set]at hj
    by_cases e:j=2*x+1
    · subst e
      rw[if_pos rfl,if_pos (by omega)]at hj
      cases hj
      simp only[ah,if_true]
      simp[il]
      rfl
    · rw[if_neg (λh=>e h.symm)]at hj
      simp only[if_neg e,ah,pk (show 4<1000 by omega),il (show j<1000 by omega) (show 2000≤2240 by omega),sF,e,if_false]
      exact ic hj (by omega)
  · intro a b ha hb he
    simp at ha hb
    unfold Fr at he
    (repeat' split at he)<;>omega
  · intro a b ha hb he
    simp only[rdL,List.length_cons,List.length_nil]at ha
    unfold Fr at he
    (repeat' split at he)<;>omega
theorem rd_a4(t:Tpl)(hc:aD t=0)(l:Lnk)(i:Nat)(M:List (List Stp))(hM:M.length=2 * t.rs.length)(hr:∀r∈M,r.length≤100000){x:Nat}(hx:(t.rs.map (·.id))[x]?=some l.a)(k:Nat){Q:X→S3→Prop}
    (hQ:∀s,aA 0 k s (rdT t l i (apR M (2*x+1) ⟨l.b,l.cb⟩))→Q .normal s):AWP Tryz.prog 0 k E2 Q (rdT t l i M):=by
  have hO:=aC hc
  have hR:=hO.nr
  have hxl:x<t.rs.length:=by have:=ap hx;rwa [List.length_map]at this
  have hnd:(t.rs.map (·.id)).Nodup:=List.Pairwise.map _ (λa b h=>by omega) hO.asc
  obtain⟨hk1,hk2⟩:=kC hnd hx
  obtain⟨row,hrow⟩:∃row,M[2*x+1]?=some row:=⟨M[2*x+1]'(by omega),List.getElem?_eq_getElem (by omega)⟩
  have hrl:=hr row (List.mem_of_getElem? hrow)
  unfold rdT E2
  generalize hids:t.rs.map (·.id)=ids at *
  have hG0:∀b,b<1000→GS M (hpL 0 (rdL t l ids (evN t.rs.length) (odN t.rs.length))) b=hpL 0 (rdL t l ids (evN t.rs.length) (odN t.rs.length)) b:=λb hb=>lZ hb
  have g2:GS M (hpL 0 (rdL t l ids (evN t.rs.length) (odN t.rs.length))) 2=some (.box (.agg [.mref 3,.mref 4])):=hG0 2 (by decide)
  have g3:GS M (hpL 0 (rdL t l ids (evN t.rs.length) (odN t.rs.length))) 3=some (.map none (kyN ids) (evN t.rs.length)):=hG0 3 (by decide)
  have g4:GS M (hpL 0 (rdL t l ids (evN t.rs.length) (odN t.rs.length))) 4=some (.map none (kyN ids) (odN t.rs.length)):=hG0 4 (by decide)
  have g5:GS M (hpL 0 (rdL t l ids (evN t.rs.length) (odN t.rs.length))) 5=some (.box (.agg [.int l.a,.int l.b,.int l.ca,.int l.cb,.int l.w])):=hG0 5 (by decide)
  have gF:GS M (hpL 0 (rdL t l ids (evN t.rs.length) (odN t.rs.length))) (Fr (2*x+1))=some (.vec 2 (row.map Stp.v)):=ic hrow (by omega)
  have hmg:cZ (kyN ids) (odN t.rs.length) (MK.n l.a) (.sl 0 [] true) false=.vec (Fr (2*x+1)):=by
    unfold cZ;rw[if_pos hk1,hk2,AA hxl];rfl
  have hms:∀v,dO none (kyN ids) (odN t.rs.length) (MK.n l.a) v=  .map none (kyN ids) ((odN t.rs.length).set x v):=λv=>by
    unfold dO;rw[if_pos hk1,hk2]
  have hml:=bv
  refine AWP.dreg' λK hK=>?_
  try simp only[ak,ao,am,eq_self,implies_true,forall_eq_or_imp,forall_eq,Nat.reduceEqDiff,↓reduceIte,Nat.reduceAdd,Nat.reduceLeDiff,Nat.reduceSub,Nat.reduceMul,Nat.reduceLT,Int.reduceBEq,Int.reduceBNe,Int.reduceToNat,Int.reduceLT,Int.reduceLE,Int.reduceAdd,Int.reduceSub,Int.reduceMul,reduceCtorEq,g2,g3,g4,g5,bL,bx,dI,AV.key,MK.fits,hmg,hms,gF,and_self,true_and]
  refine gX ?_
  have hap:∀xs f,bt (GS M (hpL 0 (rdL t l ids (evN t.rs.length) (odN t.rs.length)))) f 2 16 (.vec (Fr (2*x+1))) (some xs)={ c:=(row.length+xs.length) * 16≤2 ^ 47∧row.length+xs.length≤maxLen,v:=.vec f,rm:=some (Fr (2*x+1)),ad:=some (f,.vec 2 (row.map Stp.v++xs)) }:=λxs f=>by
    simp[bt,gF]
  try simp only[ak,ao,am,eq_self,implies_true,forall_eq_or_imp,forall_eq,Nat.reduceEqDiff,↓reduceIte,Nat.reduceAdd,Nat.reduceLeDiff,Nat.reduceSub,Nat.reduceMul,Nat.reduceLT,Int.reduceBEq,Int.reduceBNe,Int.reduceToNat,Int.reduceLT,Int.reduceLE,Int.reduceAdd,Int.reduceSub,Int.reduceMul,reduceCtorEq,gF,g2,g3,g4,g5,hap,hms,bL,AV.key,MK.fits,and_self,true_and,ec,bO (show 4<1000 by omega),if_false]
  refine⟨⟨by omega,by omega⟩,?_⟩
  refine⟨?_,hK _ _ _ (hQ _ ?_)⟩
  · have e2:∀n,n<1000→(Fr (2*x+1)==n)=false:=λn hn=>by simp[Fr];omega
    have e3:∀n,n<1000→(n==Fr (2*x+1))=false:=λn hn=>by simp[Fr];omega
    simp[ig,oa,bK,AOp.opers,aS,evO,ah,e2,e3]
    unfold Fr;omega
  have hap':apR M (2*x+1) ⟨l.b,l.cb⟩=M.set (2*x+1) (row++[⟨l.b,l.cb⟩]):=by unfold apR;rw[List.getD_eq_getElem?_getD,hrow];rfl
  rw[hap']
  refine aA.nfR cF _ _ _ (λb=>b) (λj=>if j=2*x+1 then 2240 else Fr j) ?_
    (tg ⟨rfl,rfl,rfl,rfl,rfl⟩ (by omega) ?_ ?_ ?_ ?_ ?_ ?_ (rdu3 (hx:=hxl)) (rdu4 (hx:=hxl))) (by simp[rdL]) (by simp;omega) ?_ (λi j _ _ h=>h) ?_ ?_ (λb _=>rfl) (by decide)
  · simp only[List.forall_mem_cons,List.not_mem_nil,false_implies,implies_true,and_true]
    exact⟨⟨rfl,show 0<2000 by omega⟩,⟨rfl,show 1<2000 by omega⟩,⟨rfl,show 2<2000 by omega⟩,⟨rfl,show 5<2000 by omega⟩,⟨rfl,trivial⟩,⟨rfl,trivial⟩,rfl,trivial⟩
  · simp only[ah,bO (show 0<1000 by omega),if_false];exact hG0 0 (by decide)
  · simp only[ah,bO (show 1<1000 by omega),if_false];exact hG0 1 (by decide)
  · simp only[ah,bO (show 2<1000 by omega),if_false];exact hG0 2 (by decide)
  · rw[hids];first|(simp only[ah,if_true];done)|(simp only[ah,bO (show 3<1000 by omega),if_false];exact hG0 3 (by decide))
  · rw[hids];first|(simp only[ah,if_true];done)|(simp only[ah,bO (show 4<1000 by omega),if_false];exact hG0 4 (by decide))
  · simp only[ah,bO (show 5<1000 by omega),if_false];exact hG0 5 (by decide)
  · intro j q hj
    have hjl:=ap hj
    rw[List.length_set]at hjl
    rw[List.getElem?_set]at hj
    by_cases e:j=2*x+1
    · subst e
      rw[if_pos rfl,if_pos (by omega)]at hj
      cases hj
      simp only[ah,if_true]
      simp[il]
      rfl
    · rw[if_neg (λh=>e h.symm)]at hj
      simp only[if_neg e,ah,pk (show 4<1000 by omega),il (show j<1000 by omega) (show 2000≤2240 by omega),sF,e,if_false]
      exact ic hj (by omega)
  · intro a b ha hb he
    simp at ha hb
    unfold Fr at he
    (repeat' split at he)<;>omega
  · intro a b ha hb he
    simp only[rdL,List.length_cons,List.length_nil]at ha
    unfold Fr at he
    (repeat' split at he)<;>omega
def ix5(t:Tpl)(a:Int):Nat:=(t.rs.map (·.id)).idxOf a
theorem qW{t:Tpl}{a:Int}(h:aG t a=true):(t.rs.map (·.id))[ix5 t a]?=some a:=by
 have hm:a∈t.rs.map (·.id):=by
  unfold aG at h
  obtain⟨r,hr,e⟩:=List.any_eq_true.mp h
  exact List.mem_map.mpr ⟨r,hr,by simpa using e⟩
 unfold ix5
 have hl:=List.idxOf_lt_length_of_mem hm
 rw[List.getElem?_eq_getElem hl,List.getElem_idxOf hl]
def qR(t:Tpl)(M:List (List Stp))(l:Lnk):List (List Stp):=apR (apR (apR (apR M (2 * ix5 t l.a) ⟨l.b,l.ca⟩) (2 * ix5 t l.b) ⟨l.a,l.cb⟩) (2 * ix5 t l.b+1) ⟨l.a,l.ca⟩) (2 * ix5 t l.a+1) ⟨l.b,l.cb⟩
def ed(t:Tpl)(ls:List Lnk):List (List Stp):=ls.foldl (qR t) (List.replicate (2 * t.rs.length) [])
theorem F8(t:Tpl)(M:List (List Stp))(l:Lnk):(qR t M l).length=M.length:=by simp[qR,ia]
theorem hZ{M:List (List Stp)}{m:Nat}(h:∀r∈M,r.length≤m)(x:Nat)(s:Stp):∀r∈apR M x s,r.length≤m+1:=λr hr=>by
 unfold apR at hr
 rcases List.mem_or_eq_of_mem_set hr with h1|rfl
 ·have:=h r h1;omega
 ·rw[List.length_append,List.getD_eq_getElem?_getD]
  cases e:M[x]? with
  | none=>simp
  | some q=>have:=h q (List.mem_of_getElem? e);simp;omega
theorem F7{t:Tpl}{M:List (List Stp)}{m:Nat}(h:∀r∈M,r.length≤m)(l:Lnk):∀r∈qR t M l,r.length≤m+4:=hZ (hZ (hZ (hZ h _ _) _ _) _ _) _ _
theorem dz(t:Tpl)(ls:List Lnk):(ed t ls).length=2 * t.rs.length:=by
 unfold ed
 have:∀(ls:List Lnk) (M:List (List Stp)),(ls.foldl (qR t) M).length=M.length:=λls=>by
  induction ls with
  | nil=>intro M;rfl
  | cons l ls ih=>intro M;rw[List.foldl_cons,ih,F8]
 rw[this];simp
theorem F5(t:Tpl)(ls:List Lnk):∀r∈ed t ls,r.length≤4 * ls.length:=by
 unfold ed
 have:∀(ls:List Lnk) (M:List (List Stp)) (m:Nat),(∀r∈M,r.length≤m)→∀r∈ls.foldl (qR t) M,r.length≤m+4 * ls.length:=λls=>by
  induction ls with
  | nil=>intro M m h;exact h
  | cons l ls ih=>intro M m h r hr;have:=ih _ _ (F7 h l) r hr;simp only[List.length_cons];omega
 intro r hr
 have:=this ls _ 0 (λr hr=>by rw[(List.mem_replicate.mp hr).2];exact Nat.le_refl _) r hr
 omega
theorem CR(t:Tpl){ls:List Lnk}{i:Nat}{l:Lnk}(h:ls[i]?=some l):ed t (ls.take (i+1))=qR t (ed t (ls.take i)) l:=by
 rw[aU h];unfold ed;rw[List.foldl_append];rfl
def E7:AC:=.seq (.reg [⟨(some 28),.faddr 1 (.t 1),none⟩,⟨(some 29),.load false 1 (.t 28),none⟩,⟨(some 30),.len (.t 29),none⟩,⟨(some 31),.move (.c (.val (.int .i64 0))),none⟩])
 (.block 2 (.loop (.seq (.reg [⟨(some 32),.bin .lss (.t 31) (.t 30),none⟩])
 (.seq (.cond (.t 32) (.skip) (.exit 2))
 (.seq (.block 3 (.seq (.reg [⟨(some 33),.iaddr 5 (.t 29) (.t 31),none⟩,⟨(some 34),.load true 5 (.t 33),none⟩,⟨(some 7),.box (.c (.agg [(.val (.int .i64 0)),(.val (.int .i64 0)),(.val (.int .i64 0)),(.val (.int .i64 0)),(.val (.int .i64 0))])),none⟩,⟨none,.store 5 (.t 7) (.t 34),none⟩])
 (.seq E5 (.seq E4 (.seq E3 E2)))))
 (.reg [⟨(some 99),.bin .add (.t 31) (.c (.val (.int .i64 1))),none⟩,⟨(some 31),.move (.t 99),none⟩]))))))
def rdI(t:Tpl)(i:Nat)(M:List (List Stp)):S3:=
 ⟨cL [(1,.ref 0 0),(2,.ref 1 0),(3,.ref 2 0),(29,.sl 5 (t.ls.map Lnk.v) false),(30,.int t.ls.length),(31,.int (i:Nat))],GS M (hpL 0 (rdH t (t.rs.map (·.id)) (evN t.rs.length) (odN t.rs.length))),2000⟩
theorem rd_h2(t:Tpl)(hc:aD t=0)(k:Nat):dL Tryz.prog 0 k E7 (rdS t (List.replicate (2 * t.rs.length) [])) (rdS t (ed t t.ls)):=by
 unfold dL E7
 have hO:=aC hc
 have hR:=hO.nr
 have hL:=hO.nl
 have hml:=bv
 unfold rdS
 have hG0:∀M b,b<1000→GS M (hpL 0 (rdH t (t.rs.map (·.id)) (evN t.rs.length) (odN t.rs.length))) b=hpL 0 (rdH t (t.rs.map (·.id)) (evN t.rs.length) (odN t.rs.length)) b:=λM b hb=>lZ hb
 have g0:∀M,GS M (hpL 0 (rdH t (t.rs.map (·.id)) (evN t.rs.length) (odN t.rs.length))) 0=some (.box (.agg [.sl 2 (t.rs.map Rtr.v) false,.sl 5 (t.ls.map Lnk.v) false])):=λM=>hG0 M 0 (by decide)
 refine AWP.seq' ?_
 refine AWP.reg' λK hK=>?_
 try simp only[ak,ao,am,eq_self,implies_true,forall_eq_or_imp,forall_eq,Nat.reduceEqDiff,↓reduceIte,Nat.reduceAdd,Nat.reduceLeDiff,Nat.reduceSub,Nat.reduceMul,Nat.reduceLT,Int.reduceBEq,Int.reduceBNe,Int.reduceToNat,Int.reduceLT,Int.reduceLE,Int.reduceAdd,Int.reduceSub,Int.reduceMul,reduceCtorEq,g0,List.length_map]
 refine hK _ _ _ ?_
 clear hK K
 refine AWP.block ?_
 refine AWP.loopS (λi:Nat=>rdI t i (ed t (t.ls.take i))) (λi=>i≤t.ls.length) (λi=>t.ls.length-i) (i0:=0) (Nat.zero_le _) ?_ ?_
 ·refine aA.nfR cF _ _ _ (λb=>b) Fr ?_ (oG (by omega) rfl rfl rfl rfl rfl rfl rfl) (by simp[rdH]) (by rw[dz];omega) ?_ (λi j _ _ h=>h) (λi j _ _ h=>by unfold Fr at h;omega) (λi j h1 h2 h=>by simp[rdH]at h1;unfold Fr at h;omega) (λb _=>rfl) (by decide)
  ·simp only[List.forall_mem_cons,List.not_mem_nil,false_implies,implies_true,and_true]
   exact⟨⟨rfl,show 0<2000 by omega⟩,⟨rfl,show 1<2000 by omega⟩,⟨rfl,show 2<2000 by omega⟩,⟨rfl,trivial⟩,⟨rfl,trivial⟩,rfl,trivial⟩
  ·exact λj r hr=>ic hr (by simp;omega)
 ·intro i hi
  unfold rdI
  refine AWP.seq' ?_
  refine AWP.reg' λK hK=>?_
  try simp only[ak,ao,am,eq_self,implies_true,forall_eq_or_imp,forall_eq,Nat.reduceEqDiff,↓reduceIte,Nat.reduceAdd,Nat.reduceLeDiff,Nat.reduceSub,Nat.reduceMul,Nat.reduceLT,Int.reduceBEq,Int.reduceBNe,Int.reduceToNat,Int.reduceLT,Int.reduceLE,Int.reduceAdd,Int.reduceSub,Int.reduceMul,reduceCtorEq]
  refine hK _ _ _ ?_
  clear hK K
  refine AWP.seq' ?_
  refine AWP.cond (b:=decide ((i:Int)<(t.ls.length:Int))) rfl (λh=>?_) (λh=>?_)
  ·have h:i<t.ls.length:=by have:=of_decide_eq_true h;omega
   have hr:t.ls[i]?=some t.ls[i]:=List.getElem?_eq_getElem h
   generalize t.ls[i]=l at hr
   refine AWP.skip ?_
   refine AWP.seq' (AWP.block (AWP.seqW (rdT t l i (ed t (t.ls.take i))) ?_ ?_))
   ·have hge:(t.ls.map Lnk.v).getD i .unk=Lnk.v l:=by rw[List.getD_eq_getElem?_getD,List.getElem?_map,hr];rfl
    refine AWP.reg' λK hK=>?_
    try simp only[ak,ao,am,eq_self,implies_true,forall_eq_or_imp,forall_eq,Nat.reduceEqDiff,↓reduceIte,Nat.reduceAdd,Nat.reduceLeDiff,Nat.reduceSub,Nat.reduceMul,Nat.reduceLT,Int.reduceBEq,Int.reduceBNe,Int.reduceToNat,Int.reduceLT,Int.reduceLE,Int.reduceAdd,Int.reduceSub,Int.reduceMul,reduceCtorEq,hge,Int.toNat_natCast,List.length_map,Lnk.v]
    refine⟨⟨by omega,by omega⟩,?_⟩
    refine hK _ _ _ ?_
    clear hK K
    have hG1:∀b,b<1000→b≠2048:=λb hb=>by omega
    refine aA.nfR cF _ _ _ (λb=>if b=5 then 2048 else b) Fr ?_ (tg ⟨rfl,rfl,rfl,rfl,rfl⟩ (by omega) rfl rfl rfl rfl rfl rfl rfl rfl) (by simp[rdL]) (by rw[dz];omega) ?_ ?_ (λi j _ _ h=>by unfold Fr at h;omega) ?_ (λb hb=>by omega) (by decide)
    ·simp only[List.forall_mem_cons,List.not_mem_nil,false_implies,implies_true,and_true]
     exact⟨⟨rfl,show 0<2000 by omega⟩,⟨rfl,show 1<2000 by omega⟩,⟨rfl,show 2<2000 by omega⟩,⟨rfl,show 5<2000 by omega⟩,⟨rfl,trivial⟩,⟨rfl,trivial⟩,rfl,trivial⟩
    ·intro j r hr
     have hj:=ap hr
     rw[dz]at hj
     simp only[ah,il (show j<1000 by omega) (show 2000≤2048 by omega),if_false]
     exact ic hr (by rw[dz];omega)
    ·intro a b ha hb he
     simp only[rdL,List.length_cons,List.length_nil]at ha hb
     (repeat' split at he)<;>omega
    ·intro a b ha hb he
     simp only[rdL,List.length_cons,List.length_nil]at ha
     rw[dz]at hb
     unfold Fr at he
     (repeat' split at he)<;>omega
   ·have hm:=List.mem_of_getElem? hr
    obtain⟨ha,hb⟩:=hO.has l hm
    have hx:=qW ha
    have hy:=qW hb
    have hM0:=dz t (t.ls.take i)
    have r0:=F5 t (t.ls.take i)
    have hln:(t.ls.take i).length≤60:=by rw[List.length_take];omega
    have r1:=hZ r0 (2 * ix5 t l.a) ⟨l.b,l.ca⟩
    have r2:=hZ r1 (2 * ix5 t l.b) ⟨l.a,l.cb⟩
    have r3:=hZ r2 (2 * ix5 t l.b+1) ⟨l.a,l.ca⟩
    refine AWP.seqW _ (rd_a1 t hc l i _ hM0 (λr h=>by have:=r0 r h;omega) hx k λs hw=>hw) ?_
    refine AWP.seqW _ (rd_a2 t hc l i _ (by rw[ia,hM0]) (λr h=>by have:=r1 r h;omega) hy k λs hw=>hw) ?_
    refine AWP.seqW _ (rd_a3 t hc l i _ (by rw[ia,ia,hM0]) (λr h=>by have:=r2 r h;omega) hy k λs hw=>hw) ?_
    refine rd_a4 t hc l i _ (by rw[ia,ia,ia,hM0]) (λr h=>by have:=r3 r h;omega) hx k λs hw=>?_
    refine AWP.weak hw ?_
    have e:apR (apR (apR (apR (ed t (t.ls.take i)) (2 * ix5 t l.a) ⟨l.b,l.ca⟩) (2 * ix5 t l.b) ⟨l.a,l.cb⟩) (2 * ix5 t l.b+1) ⟨l.a,l.ca⟩) (2 * ix5 t l.a+1) ⟨l.b,l.cb⟩=ed t (t.ls.take (i+1)):=(CR t hr).symm
    rw[e]
    unfold rdT
    have w:IntKind.i64.wrap ((i:Int)+1)=((i+1:Nat):Int):=jQ (by omega) (by omega)
    refine AWP.reg' λK hK=>?_
    try simp only[ak,ao,am,eq_self,implies_true,forall_eq_or_imp,forall_eq,Nat.reduceEqDiff,↓reduceIte,Nat.reduceAdd,Nat.reduceLeDiff,Nat.reduceSub,Nat.reduceMul,Nat.reduceLT,Int.reduceBEq,Int.reduceBNe,Int.reduceToNat,Int.reduceLT,Int.reduceLE,Int.reduceAdd,Int.reduceSub,Int.reduceMul,reduceCtorEq,w]
    refine hK _ _ _ ?_
    clear hK K
    refine⟨i+1,by omega,by omega,?_⟩
    refine aA.nfR cF _ _ _ (λb=>b) Fr ?_ (oG (by omega) rfl rfl rfl rfl rfl rfl rfl) (by simp[rdH]) (by rw[dz];omega) ?_ (λi j _ _ h=>h) (λi j _ _ h=>by unfold Fr at h;omega) (λi j h1 h2 h=>by simp[rdH]at h1;unfold Fr at h;omega) (λb _=>rfl) (by decide)
    ·simp only[List.forall_mem_cons,List.not_mem_nil,false_implies,implies_true,and_true]
     exact⟨⟨rfl,show 0<2000 by omega⟩,⟨rfl,show 1<2000 by omega⟩,⟨rfl,show 2<2000 by omega⟩,⟨rfl,trivial⟩,⟨rfl,trivial⟩,rfl,trivial⟩
    ·exact λj r hr=>ic hr (by rw[dz];omega)
  ·have h:i=t.ls.length:=by have:=of_decide_eq_false h;omega
   subst h
   refine AWP.exit ?_
   refine(show aA 0 k _ _ from ?_)
   rw[List.take_length]
   refine aA.nfR cF _ _ _ (λb=>b) Fr ?_ (oG (by omega) rfl rfl rfl rfl rfl rfl rfl) (by simp[rdH]) (by rw[dz];omega) (λj r hr=>ic hr (by rw[dz];omega)) (λi j _ _ h=>h) (λi j _ _ h=>by unfold Fr at h;omega) (λi j h1 h2 h=>by simp[rdH]at h1;unfold Fr at h;omega) (λb _=>rfl) (by decide)
   simp only[List.forall_mem_cons,List.not_mem_nil,false_implies,implies_true,and_true]
   exact⟨⟨rfl,show 0<2000 by omega⟩,⟨rfl,show 1<2000 by omega⟩,rfl,show 2<2000 by omega⟩
end Go.Proofs.YtdoacjojljgdcaaGreat
namespace Go.Am
open Go.Proofs Go.Shelf Go.RowKit Go.Lib Go.Sort
theorem um{α:Type}[Inhabited α](enc:α→List Value)(k:Nat)(k0:0<k)(hk:∀x,(enc x).length=k):∀l:List α,
  (List.range (l.length * k)).map (λt=>(enc l[t / k]!)[t % k]!)=l.flatMap enc
 | []=>by simp
 | x::l=>by
  have ih:=um enc k k0 hk l
  rw[List.flatMap_cons,←ih,List.length_cons,Nat.succ_mul,Nat.add_comm,List.range_add,List.map_append,List.map_map]
  congr 1
  ·refine List.ext_getElem (by simp[hk]) λi h1 h2=>?_
   have hi:i<k:=by simpa using h1
   simp[Nat.div_eq_of_lt hi,Nat.mod_eq_of_lt hi,h2]
  ·refine List.map_congr_left λt _=>?_
   simp[Function.comp,Nat.add_div_left t k0]
theorem nS{α:Type}[Inhabited α](enc:α→List Value)(k:Nat)(k0:0<k)(hk:∀x,(enc x).length=k)(d:Array α):(flatK enc k d).toList=d.toList.flatMap enc:=by
 rw[←um enc k k0 hk d.toList]
 unfold flatK
 simp[List.getElem!_eq_getElem?_getD,Array.getElem!_eq_getD,Array.getD_eq_getD_getElem?]
section
variable {T : Type} (key : T → Int) (k : Nat)
structure SE where
  x:T
  cs:List Value
  ok:cs.length=k∧(∀u∈cs,u.oneCell'=true)∧∃r,cs=.int .i64 (key x)::r
variable {key k}
theorem SE.list{w:World}{A:Nat→Prop}{μ:Mu}{v:T→AV}(hv:∀x,∃cs,v x=.agg (.int (key x)::cs)) :
  ∀{l:List T} {vs:List Value},RVL w A (l.map v) μ vs→(∀u∈vs,u.cells.size=k)→∃ds:List (SE key k),ds.map SE.x=l∧vs=ds.map (λp=>.agg p.cs.toArray)∧∀p∈ds,RV w A (v p.x) μ (.agg p.cs.toArray)
 | [],vs,h,_=>⟨[],rfl,h,by simp⟩
 | x::l,_,⟨u,vs,rfl,h1,h2⟩,hs=>by
  obtain⟨ds,e1,e2,e3⟩:=SE.list hv h2 λu hu=>hs u (List.mem_cons_of_mem _ hu)
  obtain⟨cs,hc⟩:=hv x
  have h1':=h1
  rw[hc]at h1
  obtain⟨us,rfl,g1,g2⟩:=h1
  obtain⟨u0,us',rfl,g3,g4⟩:=g1
  obtain⟨rfl,g5⟩:=g3
  have hl:(Value.int .i64 (key x)::us').length=k:=by
   have:=hs _ (List.mem_cons_self ..)
   simpa[Value.cells]using this
  exact⟨⟨x,.int .i64 (key x)::us',hl,g2,us',rfl⟩::ds,by rw[List.map_cons,e1],by rw[List.map_cons,e2],λp hp=>by
   rcases List.mem_cons.mp hp with rfl|hp
   ·exact h1'
   ·exact e3 p hp⟩
theorem SE.rvl{w:World}{A:Nat→Prop}{μ:Mu}{v:T→AV}:∀{ds:List (SE key k)},(∀p∈ds,RV w A (v p.x) μ (.agg p.cs.toArray))→RVL w A ((ds.map SE.x).map v) μ (ds.map λp=>.agg p.cs.toArray)
 | [],_=>rfl
 | p::ds,h=>⟨_,_,rfl,h p (List.mem_cons_self ..),SE.rvl λq hq=>h q (List.mem_cons_of_mem _ hq)⟩
end
theorem Iz{T:Type}(key:T→Int):SWO (ltOf λx y:T=>Lib.compareInt (key x) (key y)):=by
 have e:∀x y:T,ltOf (λx y:T=>Lib.compareInt (key x) (key y)) x y=decide (key x<key y):=λx y=>by
  unfold ltOf Lib.compareInt
  by_cases h1:key x<key y
  ·simp[h1]
  ·by_cases h2:key y<key x<;>simp[h1,h2]
 refine⟨λx=>?_,λx y z h1 h2=>?_,λx y z h1 h2=>?_⟩
 ·rw[e];simp
 ·rw[e]at *;simp at *;omega
 ·rw[e]at *;simp at *;omega
theorem OE{T:Type}(key:T→Int)(x y:T):ltOf (λx y:T=>Lib.compareInt (key x) (key y)) x y=decide (key x<key y):=by
 unfold ltOf Lib.compareInt
 by_cases h1:key x<key y
 ·simp[h1]
 ·by_cases h2:key y<key x<;>simp[h1,h2]
theorem j3{T:Type}{key:T→Int}:∀{a b:List T},a.Perm b→a.Pairwise (λx y=>key x≤key y)→b.Pairwise (λx y=>key x<key y)→a=b
 | [],b,h,_,_=>(List.nil_perm.mp h).symm
 | x::a,[],h,_,_=>absurd h.length_eq (by simp)
 | x::a,y::b,h,h1,h2=>by
  have hxy:x=y:=by
   have m1:=h.mem_iff.mp (List.mem_cons_self (a:=x) (l:=a))
   have m2:=h.mem_iff.mpr (List.mem_cons_self (a:=y) (l:=b))
   rcases List.mem_cons.mp m1 with e|m1
   ·exact e
   rcases List.mem_cons.mp m2 with e|m2
   ·exact e.symm
   have g1:=(List.pairwise_cons.mp h1).1 y m2
   have g2:=(List.pairwise_cons.mp h2).1 x m1
   omega
  subst hxy
  rw[j3 ((List.perm_cons _).mp h) (List.pairwise_cons.mp h1).2 (List.pairwise_cons.mp h2).2]
theorem CX{α:Type}[Inhabited α]{enc:α→List Value}{k:Nat}{w:World}{blk n:Nat}{d:Array α}{os:Array Obj}{C:Array Value}{ty:TypeId}(h:w.heap[blk]?=some (.cells C ty (0,0))) :
  (sortWorldK enc k w blk 0 n d os).heap[blk]?=some (.cells (putCells id 0 (flatK enc k d) C) ty (0,0))∧(∀b,b<w.heap.size→b≠blk→(sortWorldK enc k w blk 0 n d os).heap[b]?=w.heap[b]?) ∧
  w.heap.size≤(sortWorldK enc k w blk 0 n d os).heap.size:=by
 have hb:blk<w.heap.size:=(Array.getElem?_eq_some_iff.mp h).1
 have e:(sortWorldK enc k w blk 0 n d os).heap=w.heap.modify blk (onCells (putCells id 0 (flatK enc k d)))++os:=rfl
 rw[e]
 refine⟨?_,λb h1 h2=>?_,by simp⟩
 ·rw[Array.getElem?_append_left (by simpa using hb),Array.getElem?_modify,if_pos rfl,h];rfl
 ·rw[Array.getElem?_append_left (by simpa using h1),Array.getElem?_modify,if_neg (Ne.symm h2)]
theorem EB{F C:Array Value}(h:F.size≤C.size):(putCells id 0 F C).toList.take F.size=F.toList∧(putCells id 0 F C).size=C.size:=by
 have hs:(putCells id 0 F C).size=C.size:=by simp[putCells]
 refine⟨List.ext_getElem (by simp[hs];omega) λi h1 h2=>?_,hs⟩
 have hi:i<F.size:=by simpa using h2
 simp[putCells,hi]
theorem vO{P:Program}{ρ:Ren}(L:SlLaysF0.n6 P ρ){T:Type}(v:T→AV)(key:T→Int)(k:Nat)(k0:0<k)
  (aE:∀w,(isAgg (ρ.t 24)).run P w=.ok true w) (zE:∀w,(Go.sizeOf (ρ.t 24)).run P w=.ok k w) (hv:∀x,∃cs,v x=.agg (.int (key x)::cs))
  (g:Nat) (eg:∀args w,(callFunc g args).run P w=.ok (.enter g args) w)
  (hcmp:∀(a b:Int) (xs ys:List Value) (w:World),xs.length+1=k→ys.length+1=k→(∀u∈xs,u.oneCell'=true)→(∀u∈ys,u.oneCell'=true) →
   Calls P g #[.agg (Value.int .i64 a::xs).toArray,.agg (Value.int .i64 b::ys).toArray] w λe w'=>e=.returned (.int .i64 (Lib.compareInt a b))∧∃q os',w'=grow (w.drewN q) os')
  (l l':List T) (hp:l'.Perm l) (hs:l'.Pairwise λx y=>key x<key y) (hl:l.length≤1000000) :
  aO P (ρ.f 6) [.vec 0,.func g []] [.vec k (l.map v)] (.tup []) [some (.vec k (l'.map v))]:=by
 intro w A μ cargs hH hmu hargs
 obtain⟨c0,_,rfl,h0,c1,_,rfl,h1,rfl⟩:=hargs
 obtain⟨hd,hm,rfl⟩:=h0
 obtain⟨_,rfl,rfl⟩:=h1
 obtain⟨hd',hm',hb,hA⟩:=hH.blk 0 _ rfl
 rw[hm]at hm';cases hm'
 obtain⟨hk,hb⟩:=hb
 have none_:∀p cap,hd.val=.slice p 0 cap→l=[]→Calls P (ρ.f 6) [hd.val,Value.func (.func g) #[] ([]:List Value).toArray].toArray w λe w'=>∃v_1 A' μ',e=.returned v_1∧RV w' A' (.tup []) μ' v_1∧jM P w' A' μ' (bp [some (.vec k (l'.map v))])∧bE μ μ'∧Ext (c8 μ (bp ([Blk.vec k (l.map v)].map some))) w w' ∧
   (∀b,A b→A' b)∧(∀b,A' b→A b∨c8 μ (bp ([Blk.vec k (l.map v)].map some)) b∨w.heap.size≤b) ∧
   (∀b,c8 μ' (bp [some (.vec k (l'.map v))]) b→c8 μ (bp ([Blk.vec k (l.map v)].map some)) b∨w.heap.size≤b):=by
  intro p cap e0 e1
  subst e1
  obtain rfl:=List.perm_nil.mp hp
  rw[e0]
  refine(AnyF.slices_SortFunc_none L p cap (.func (.func g) #[] #[]) w).mono ?_
  rintro e w' ⟨rfl,rfl⟩
  exact⟨_,A,μ,rfl,⟨[],rfl,rfl⟩,hH,bE.refl _,⟨rfl,rfl,rfl,Nat.le_refl _,λ_ _ _=>rfl⟩,λb h=>h,λb h=>.inl h,λb h=>.inl h⟩
 rcases hb with⟨he,ha⟩|⟨he,hlen,hle,hcap,C,ty,vs,hheap,hrvl,hsol,hsz,hC,htake⟩
 ·obtain⟨a,ha⟩:=Option.isSome_iff_exists.mp ha
  exact none_ a 0 (by unfold Hd.val;rw[ha]) (by simpa using he)
 obtain⟨ds,e1,rfl,e3⟩:=SE.list hv hrvl hsz
 have hval:hd.val=.slice (some ⟨hd.blk,0,none⟩) hd.len hd.cap:=by unfold Hd.val;rw[he]
 have hlen':hd.len=ds.length:=by rw[hlen,←e1];simp
 match hds:ds with
 | []=>exact none_ _ _ (by rw[hval,hlen'];rfl) (by rw[←e1];rfl)
 | p0::ds' =>
  rw[←hds]at e1 e3 htake hlen' hrvl hsz
  haveI:Inhabited (SE key k):=⟨p0⟩
  obtain⟨nA,hblk⟩:=hA he
  have hk1:∀x:SE key k,x.cs.length=k:=λx=>x.ok.1
  have hC':C.toList.take (ds.length * k)=(flatK SE.cs k ds.toArray).toList:=by
   rw[nS _ _ k0 hk1,←hlen',htake,List.flatMap_map]
   rfl
  have hsz':ds.length * k≤C.size:=by rw[←hlen'];exact Nat.le_trans (Nat.mul_le_mul_right _ hle) hC
  have hHK:HoldsK SE.cs k w hd.blk 0 ds.toArray:=by
   intro j hj
   have hj':j<ds.length * k:=by simpa using hj
   refine⟨?_,by simp[World.frozen?,hheap]⟩
   have:(C.toList.take (ds.length * k))[j]?=(flatK SE.cs k ds.toArray).toList[j]?:=by rw[hC']
   rw[List.getElem?_take,if_pos hj']at this
   simp only[World.cell?,hheap,Nat.zero_add,Option.isSome_none,Bool.false_eq_true,if_false,id]
   rw[getElem!_pos _ j hj,←Array.getElem?_eq_getElem hj]
   simpa using this
  have key_:=AnyQ.slices_SortFunc L k aE zE SE.cs hk1 (λx=>x.ok.2.1) (λx y=>Lib.compareInt (key x.x) (key y.x)) (Iz λp:SE key k=>key p.x) g #[] hd.blk 0 hd.cap ds.toArray w eg
   (λm os dk _ x y=>by
    obtain⟨rx,hx⟩:=x.ok.2.2
    obtain⟨ry,hy⟩:=y.ok.2.2
    have lx:=x.ok.1;have ly:=y.ok.1
    have ox:=x.ok.2.1;have oy:=y.ok.2.1
    have ex:x.cs=.int .i64 (key x.x)::rx:=hx
    have ey:y.cs=.int .i64 (key y.x)::ry:=hy
    rw[hx]at lx ox;rw[hy]at ly oy
    rw[ex,ey,Array.append_empty]
    exact hcmp _ _ rx ry _ lx ly (λu hu=>ox u (List.mem_cons_of_mem _ hu)) (λu hu=>oy u (List.mem_cons_of_mem _ hu))) hHK hblk (by
    have:ds.length=l.length:=by rw[←e1];simp
    show ds.length<_
    omega)
  rw[hval,hlen']
  refine key_.mono ?_
  rintro e w' ⟨rfl,d',n,os,⟨ps,-,pp⟩,hsrt,rfl⟩
  have pp:d'.toList.Perm ds:=by
   have q1:d'.extract 0 ds.toArray.size=d':=by rw[←ps];simp
   have q2:ds.toArray.extract 0 ds.toArray.size=ds.toArray:=by simp
   rw[q1,q2]at pp
   simpa using pp
  have el:d'.toList.map SE.x=l':=by
   refine j3 ((pp.map _).trans ?_) ?_ hs
   ·rw[e1];exact hp.symm
   ·rw[List.pairwise_map,List.pairwise_iff_getElem]
    intro i j hi hj hij
    have hi':i<d'.size:=by simpa using hi
    have hj':j<d'.size:=by simpa using hj
    have:=hsrt i j (Nat.zero_le _) hij (by rw[←ps];exact hj')
    rw[OE (λp:SE key k=>key p.x),getElem!_pos _ j hj',getElem!_pos _ i hi']at this
    simpa using this
  have len':d'.size=ds.length:=by rw[ps];rfl
  obtain⟨hp1,hp2,hp3⟩:=CX (enc:=SE.cs) (k:=k) (n:=n) (d:=d') (os:=os) hheap
  have hF:(flatK SE.cs k d').size≤C.size:=by rw[size_flatK,len'];exact hsz'
  obtain⟨q1,q2⟩:=EB hF
  have same:cS A w (sortWorldK SE.cs k w hd.blk 0 n d' os):=λb hb=>hp2 b (hH.lt b hb) (λe=>nA (e ▸ hb))
  have own:c8 μ (bp ([Blk.vec k (l.map v)].map some)) hd.blk:=⟨0,_,hd,rfl,hm,he,rfl⟩
  refine⟨_,A,μ,rfl,⟨[],rfl,rfl⟩,⟨λb x hx=>?_,λb b' x x' hd1 hd2 hx hx' _ _ _ _ _=>?_,hH.lt.mono same (λ_ h=>h) λb hb=>Nat.lt_of_lt_of_le (hH.lt b hb) hp3⟩,bE.refl _,
   ⟨rfl,rfl,rfl,hp3,λb h1 h2=>hp2 b h1 λe=>h2 (e ▸ own)⟩,λ_ h=>h,λ_ h=>.inl h,?_⟩
  ·have hx0:b=0:=by
    cases b with
    | zero=>rfl
    | succ b=>simp[bp]at hx
   subst hx0
   have hx:some (Blk.vec k (l'.map v))=some x:=hx
   cases hx
   refine⟨hd,hm,⟨hk,.inr ⟨he,?_,hle,hcap,_,ty,d'.toList.map (λp=>.agg p.cs.toArray),hp1,?_,?_,?_,?_,?_⟩⟩,λ_=>⟨nA,Nat.lt_of_lt_of_le hblk hp3⟩⟩
   ·rw[hlen',←el];simp[len']
   ·rw[←el]
    exact RVL.mono same (λ_ h=>h) _ (bE.refl _) (SE.rvl λp hp=>e3 p (pp.mem_iff.mp hp))
   ·intro x hx
    obtain⟨y,_,rfl⟩:=List.mem_map.mp hx
    obtain⟨cs,hc⟩:=hv y
    rw[hc];rfl
   ·intro u hu
    obtain⟨p,_,rfl⟩:=List.mem_map.mp hu
    simpa[Value.cells]using hk1 p
   ·rw[q2];exact hC
   ·have:=nS SE.cs k k0 hk1 d'
    rw[size_flatK,len',←hlen']at q1
    rw[q1,this,List.flatMap_map]
    rfl
  ·have z:∀{b x},bp [some (Blk.vec k (l'.map v))] b=some x→b=0:=λ{b x} h=>by
    cases b with
    | zero=>rfl
    | succ b=>simp[bp]at h
   rw[z hx,z hx']
  ·rintro b ⟨b',x,hd1,hx,hm1,he1,rfl⟩
   have hx0:b'=0:=by
    cases b' with
    | zero=>rfl
    | succ b=>simp[bp]at hx
   subst hx0
   rw[hm]at hm1;cases hm1
   exact .inl own
end Go.Am
