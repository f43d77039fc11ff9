/- Texts joined: KM1 KM2 KM3 KM5 Si SI KN1 KN2 KN3. -/
import Derived.Shelf.Sort.Plain
import Derived.Shelf.Slices.In.SortNone
import Derived.Test.YteooglpnechplaaGreatProg
import Derived.Sort.OwnSortedInts
import Derived.Test.YteooglpnechplaaGreatQK6
set_option linter.unusedVariables false
set_option linter.unusedSimpArgs false
set_option linter.unusedSectionVars false
namespace Go.Proofs.YteooglpnechplaaGreat
open Go Go.Am
def cutM_a(x:Int)(n:Int):Prop:=okL [.int x,.int n]
def cutM_e(r:Int):AV:=.int r
def cutM_x(x:Int)(n:Int):Ax Tryz.prog noS (Int):=
 (.br 48 (decide (n<1)) (.ret (0))
(.say (ck (!(n==0))) (.br 144 (decide ((x.tmod n)<0)) (.ret (W ((x.tmod n)+n)))
(.ret (x.tmod n)))))
def cutM_vc(x:Int)(n:Int)(r0:Int):Prop:=(cutM_x x n).vp cutM_e r0
theorem cutM_p(x n:Int)(ok:cutM_a x n):cutM_vc x n (Mod x n):=by
 simp only[cutM_a,okU,Blk.ok,plainV,List.length_map]at ok
 dsimp only[cutM_vc,cutM_x,noS,Ax.vp,Ax.vc];simp only[vcU,rfU,List.length_map]
 refine⟨λh=>by rw[Mod,if_pos h],λh=>⟨by simp;omega,λh2=>?_,λh2=>by rw[Mod,if_neg h,if_neg h2]⟩⟩
 have hb:=Int.tmod_lt_of_pos x (show 0<n by omega)
 have hb':=Int.lt_tmod_of_pos x (show 0<n by omega)
 rw[Mod,if_neg h,if_pos h2,W_eq (by omega)]
def cutM_c(x:Int)(n:Int):PC Tryz.prog:=⟨50,[.k,.k],[.int x,.int n],cutM_e (Mod x n),PSpec.of_ok λok=>mxP_of (sh:=.k) (enc:=cutM_e) (a:=(cutM_x x n).an) (cutM_p x n ok) (by kernel_rfl) (AV.pureB_ok rfl),fnB_ok (by kernel_rfl)⟩
def rawM_a(L:(List Int))(p:Int):Prop:=okL [.ref 0 0]∧(.box (.agg [.sl 1 (L.map AV.int) false,.int p]):Blk).ok
def rawM_e(r:TapI×Int):AV:=.int r.2
def rawM_b(r:TapI×Int):List (Option Blk):=[some (.box (.agg [.sl 1 (r.1.L.map AV.int) false,.int r.1.p]))]
def rawM_x(L:(List Int))(p:Int):Ax Tryz.prog noS (TapI×Int):=
 (.br 177 (decide (((L.map AV.int).length:Int)≤p)) (.retH ((⟨L,p⟩:TapI),0) ⟨[(2,.k,.int 0)],[.box (.agg [.sl 1 (L.map AV.int) false,.int p])]⟩ [0])
(.el 449 AV.int L (λR=>Rf (L.map AV.int) (ck (decide (0≤(W ((W (p+1))-1)))) (ck (decide ((W ((W (p+1))-1))<(L.length:Int)))
(∀x1,L[(W ((W (p+1))-1)).toNat]?=some x1 →
(R x1))))) λx1 =>
(.retH ((⟨L,W (p+1)⟩:TapI),x1) ⟨[(2,.k,.int x1)],[.box (.agg [.sl 1 (L.map AV.int) false,.int (W (p+1))])]⟩ [0])))
def rawM_vc(L:(List Int))(p:Int)(r0:TapI×Int):Prop:=(rawM_x L p).vc rawM_e rawM_b r0
theorem rawM_ok(L:(List Int))(p:Int)(r0:TapI×Int)(h:rawM_vc L p r0):HSpec Tryz.prog 51 [.ref 0 0] [.box (.agg [.sl 1 (L.map AV.int) false,.int p])] (rawM_e r0) (rawM_b r0):=mxH_of (sh:=.k) (hB:=rawM_b) (a:=(rawM_x L p).an) h (by kernel_rfl)
theorem rawM_p(L:List Int)(p:Nat)(ok:rawM_a L p):rawM_vc L p (⟨L,rawP L p⟩,rawV L p):=by
 simp only[rawM_a,okU,Blk.ok,plainV,List.length_map]at ok
 dsimp only[rawM_vc,rawM_x,noS,Ax.vp,Ax.vc];simp only[vcU,rfU,List.length_map]
 refine⟨λh=>?_,λh=>?_⟩
 ·rw[rawP,if_pos (by omega)];simp[rawV,List.getElem?_eq_none (show L.length≤p by omega)]
 ·have e1:W ((p:Int)+1)=p+1:=W_eq (by omega)
  have e2:W ((p:Int)+1-1)=p:=by rw[W_eq (by omega)];omega
  rw[e1,e2]
  refine⟨by omega,by omega,λx hx=>?_⟩
  rw[Int.toNat_natCast]at hx
  rw[rawP,if_neg (by omega)];simp[rawV,hx]
theorem rawM_spec(L:List Int)(p:Nat):HSpec Tryz.prog 51 [.ref 0 0] [.box (Tap.v ⟨L,p⟩)] (.int (rawV L p)) [some (.box (Tap.v ⟨L,rawP L p⟩))]:=
 HSpec.of_okh λok ok2=>rawM_ok L p _ (rawM_p L p ⟨ok,ok2 _ (List.mem_singleton.mpr rfl)⟩)
def rawM_h(L:List Int)(p:Nat):HC Tryz.prog:=⟨51,[],[.ref 0 0],[.box (Tap.v ⟨L,p⟩)],.int (rawV L p),[some (.box (Tap.v ⟨L,rawP L p⟩))],rawM_spec L p,fnB_ok (by kernel_rfl),HcOk.of rfl⟩
def nxtM_a(L:(List Int))(p:Nat)(n:Int):Prop:=okL [.ref 0 0,.int n]∧(.box (.agg [.sl 1 (L.map AV.int) false,.int ((p:Nat):Int)]):Blk).ok
def nxtM_e(r:Tap×Int):AV:=.int r.2
def nxtM_b(r:Tap×Int):List (Option Blk):=[some (.box (.agg [.sl 1 (r.1.L.map AV.int) false,.int ((r.1.p:Nat):Int)]))]
def nxtM_x(L:(List Int))(p:Nat)(n:Int):Ax Tryz.prog noS (Tap×Int):=
 (.callH [0] (rawM_h L p) 33
(.callP (cutM_c (rawV L p) n)
(.retH ((⟨L,rawP L p⟩:Tap),Mod (rawV L p) n) ⟨[(4,.k,.int (Mod (rawV L p) n))],[.box (.agg [.sl 1 (L.map AV.int) false,.int (((rawP L p):Nat):Int)])]⟩ [0])))
def nxtM_vc(L:(List Int))(p:Nat)(n:Int)(r0:Tap×Int):Prop:=(nxtM_x L p n).vc nxtM_e nxtM_b r0
theorem nxtM_p(L:List Int)(p:Nat)(n:Int)(ok:nxtM_a L p n):nxtM_vc L p n (⟨L,rawP L p⟩,Mod (rawV L p) n):=by
 dsimp only[nxtM_vc,nxtM_x,noS,Ax.vp,Ax.vc];simp only[vcU,rfU,List.length_map]
def nxtM_h(L:(List Int))(p:Nat)(n:Int):HC Tryz.prog:=⟨17,[.k,.k],[.ref 0 0,.int n],[.box (.agg [.sl 1 (L.map AV.int) false,.int ((p:Nat):Int)])],nxtM_e ((⟨L,rawP L p⟩,Mod (rawV L p) n):Tap×Int),nxtM_b ((⟨L,rawP L p⟩,Mod (rawV L p) n):Tap×Int),HSpec.of_okh λok ok2=>have ok:nxtM_a L p n:=⟨ok,ok2 _ (by simp)⟩;mxH_of (sh:=.k) (enc:=nxtM_e) (hB:=nxtM_b) (a:=(nxtM_x L p n).an) (nxtM_p L p n ok) (by kernel_rfl),fnB_ok (by kernel_rfl),HcOk.of (by simp[hcB,belBL,AV.belB,allB,okBk,okBkO,nxtM_e,nxtM_b,pureBL_map (v:=AV.int) (λ_=>rfl)])⟩
def rngM_a(L:(List Int))(p:Nat)(low:Int)(high:Int):Prop:=okL [.ref 0 0,.int low,.int high]∧(.box (.agg [.sl 1 (L.map AV.int) false,.int ((p:Nat):Int)]):Blk).ok
def rngM_e(r:Tap×Int):AV:=.int r.2
def rngM_b(r:Tap×Int):List (Option Blk):=[some (.box (.agg [.sl 1 (r.1.L.map AV.int) false,.int ((r.1.p:Nat):Int)]))]
def rngM_x(L:(List Int))(p:Nat)(low:Int)(high:Int):Ax Tryz.prog noS (Tap×Int):=
 (.callH [0] (nxtM_h L p (W ((W (high-low))+1))) 113
(.retH ((⟨L,rawP L p⟩:Tap),W (low+(Mod (rawV L p) (W ((W (high-low))+1))))) ⟨[(6,.k,.int (W (low+(Mod (rawV L p) (W ((W (high-low))+1))))))],[.box (.agg [.sl 1 (L.map AV.int) false,.int (((rawP L p):Nat):Int)])]⟩ [0]))
def rngM_vc(L:(List Int))(p:Nat)(low:Int)(high:Int)(r0:Tap×Int):Prop:=(rngM_x L p low high).vc rngM_e rngM_b r0
theorem rngM_p(L:List Int)(p:Nat)(lo hi:Int)(ok:rngM_a L p lo hi):rngM_vc L p lo hi (⟨L,rawP L p⟩,rng L p lo hi):=by
 dsimp only[rngM_vc,rngM_x,noS,Ax.vp,Ax.vc];simp only[vcU,rfU,List.length_map]
 rfl
def rngM_h(L:(List Int))(p:Nat)(low:Int)(high:Int):HC Tryz.prog:=⟨9,[.k,.k,.k],[.ref 0 0,.int low,.int high],[.box (.agg [.sl 1 (L.map AV.int) false,.int ((p:Nat):Int)])],rngM_e ((⟨L,rawP L p⟩,rng L p low high):Tap×Int),rngM_b ((⟨L,rawP L p⟩,rng L p low high):Tap×Int),HSpec.of_okh λok ok2=>have ok:rngM_a L p low high:=⟨ok,ok2 _ (by simp)⟩;mxH_of (sh:=.k) (enc:=rngM_e) (hB:=rngM_b) (a:=(rngM_x L p low high).an) (rngM_p L p low high ok) (by kernel_rfl),fnB_ok (by kernel_rfl),HcOk.of (by simp[hcB,belBL,AV.belB,allB,okBk,okBkO,rngM_e,rngM_b,pureBL_map (v:=AV.int) (λ_=>rfl)])⟩
def pckM_a(L:(List Int))(p:Nat)(l:(List Int)):Prop:=okL [.ref 0 0,.sl 1 (l.map AV.int) false]∧(.box (.agg [.sl 1 (L.map AV.int) false,.int ((p:Nat):Int)]):Blk).ok
def pckM_e(r:Tap×Int):AV:=.int r.2
def pckM_b(r:Tap×Int):List (Option Blk):=[some (.box (.agg [.sl 1 (r.1.L.map AV.int) false,.int ((r.1.p:Nat):Int)]))]
def pckM_x(L:(List Int))(p:Nat)(l:(List Int)):Ax Tryz.prog noS (Tap×Int):=
 (.callH [0] (nxtM_h L p ((l.map AV.int).length:Int)) 81
(.el 97 AV.int l (λR=>Rf (l.map AV.int) (ck (decide (0≤(Mod (rawV L p) ((l.map AV.int).length:Int)))) (ck (decide ((Mod (rawV L p) ((l.map AV.int).length:Int))<(l.length:Int)))
(∀x1,l[(Mod (rawV L p) ((l.map AV.int).length:Int)).toNat]?=some x1 →
(R x1))))) λx1 =>
(.retH ((⟨L,rawP L p⟩:Tap),x1) ⟨[(4,.k,.int x1)],[.box (.agg [.sl 1 (L.map AV.int) false,.int (((rawP L p):Nat):Int)])]⟩ [0])))
def pckM_vc(L:(List Int))(p:Nat)(l:(List Int))(r0:Tap×Int):Prop:=(pckM_x L p l).vc pckM_e pckM_b r0
theorem pckM_p(L:List Int)(p:Nat)(l:List Int)(hl:l≠[])(ok:pckM_a L p l):pckM_vc L p l (⟨L,rawP L p⟩,pickI l (rawV L p)):=by
 have hl:0<l.length:=List.length_pos_iff.mpr hl
 have hm:=Mod_range (x:=rawV L p) (show 1≤(l.length:Int) by omega)
 dsimp only[pckM_vc,pckM_x,noS,Ax.vp,Ax.vc];simp only[vcU,rfU,List.length_map]
 refine⟨by omega,by omega,λx hx=>?_⟩
 rw[pickI,List.getD_eq_getElem?_getD,hx];rfl
def pckM_h(L:(List Int))(p:Nat)(l:(List Int))(hl:l≠[]):HC Tryz.prog:=⟨33,[.k,(.s 1)],[.ref 0 0,.sl 1 (l.map AV.int) false],[.box (.agg [.sl 1 (L.map AV.int) false,.int ((p:Nat):Int)])],pckM_e ((⟨L,rawP L p⟩,pickI l (rawV L p)):Tap×Int),pckM_b ((⟨L,rawP L p⟩,pickI l (rawV L p)):Tap×Int),HSpec.of_okh λok ok2=>have ok:pckM_a L p l:=⟨ok,ok2 _ (by simp)⟩;mxH_of (sh:=.k) (enc:=pckM_e) (hB:=pckM_b) (a:=(pckM_x L p l).an) (pckM_p L p l hl ok) (by kernel_rfl),fnB_ok (by kernel_rfl),HcOk.of (by simp[hcB,belBL,AV.belB,allB,okBk,okBkO,pckM_e,pckM_b,pureBL_map (v:=AV.int) (λ_=>rfl)])⟩
def oneT(L:List Int)(p:Nat)(n:Int):Bool:=Mod (rawV L p) n==W (n-1)
def oneM_a(L:(List Int))(p:Nat)(n:Int):Prop:=okL [.ref 0 0,.int n]∧(.box (.agg [.sl 1 (L.map AV.int) false,.int ((p:Nat):Int)]):Blk).ok
def oneM_e(r:Tap×Bool):AV:=.bool r.2
def oneM_b(r:Tap×Bool):List (Option Blk):=[some (.box (.agg [.sl 1 (r.1.L.map AV.int) false,.int ((r.1.p:Nat):Int)]))]
def oneM_x(L:(List Int))(p:Nat)(n:Int):Ax Tryz.prog noS (Tap×Bool):=
 (.callH [0] (nxtM_h L p n) 49
(.retH ((⟨L,rawP L p⟩:Tap),(Mod (rawV L p) n)==(W (n-1))) ⟨[(4,.k,.bool ((Mod (rawV L p) n)==(W (n-1))))],[.box (.agg [.sl 1 (L.map AV.int) false,.int (((rawP L p):Nat):Int)])]⟩ [0]))
def oneM_vc(L:(List Int))(p:Nat)(n:Int)(r0:Tap×Bool):Prop:=(oneM_x L p n).vc oneM_e oneM_b r0
theorem oneM_p(L:List Int)(p:Nat)(n:Int)(ok:oneM_a L p n):oneM_vc L p n (⟨L,rawP L p⟩,oneT L p n):=by
 dsimp only[oneM_vc,oneM_x,noS,Ax.vp,Ax.vc];simp only[vcU,rfU,List.length_map]
 rfl
def oneM_h(L:(List Int))(p:Nat)(n:Int):HC Tryz.prog:=⟨30,[.k,.k],[.ref 0 0,.int n],[.box (.agg [.sl 1 (L.map AV.int) false,.int ((p:Nat):Int)])],oneM_e ((⟨L,rawP L p⟩,oneT L p n):Tap×Bool),oneM_b ((⟨L,rawP L p⟩,oneT L p n):Tap×Bool),HSpec.of_okh λok ok2=>have ok:oneM_a L p n:=⟨ok,ok2 _ (by simp)⟩;mxH_of (sh:=.k) (enc:=oneM_e) (hB:=oneM_b) (a:=(oneM_x L p n).an) (oneM_p L p n ok) (by kernel_rfl),fnB_ok (by kernel_rfl),HcOk.of (by simp[hcB,belBL,AV.belB,allB,okBk,okBkO,oneM_e,oneM_b,pureBL_map (v:=AV.int) (λ_=>rfl)])⟩
def wldL:List Int:=[-1,0,1,7,8,23,24,31,32,63,64,99,100,255,256,257,1000,1001,1023,1024,1000000,1000001,1099511627776,9223372036854775807,-9223372036854775808]
def wldT(L:List Int)(p:Nat):Int:=pickI wldL (rawV L p)
def wldM_a(L:(List Int))(p:Nat):Prop:=okL [.ref 0 0]∧(.box (.agg [.sl 1 (L.map AV.int) false,.int ((p:Nat):Int)]):Blk).ok
def wldM_e(r:Tap×Int):AV:=.int r.2
def wldM_b(r:Tap×Int):List (Option Blk):=[some (.box (.agg [.sl 1 (r.1.L.map AV.int) false,.int ((r.1.p:Nat):Int)]))]
def wldM_x(L:(List Int))(p:Nat):Ax Tryz.prog noS (Tap×Int):=
 (.req 49 ([-1,0,1,7,8,23,24,31,32,63,64,99,100,255,256,257,1000,1001,1023,1024,1000000,1000001,1099511627776,9223372036854775807,-9223372036854775808]≠[]) λh1 =>
(.callH [0] (pckM_h L p [-1,0,1,7,8,23,24,31,32,63,64,99,100,255,256,257,1000,1001,1023,1024,1000000,1000001,1099511627776,9223372036854775807,-9223372036854775808] h1) 49
(.retH ((⟨L,rawP L p⟩:Tap),pickI [-1,0,1,7,8,23,24,31,32,63,64,99,100,255,256,257,1000,1001,1023,1024,1000000,1000001,1099511627776,9223372036854775807,-9223372036854775808] (rawV L p)) ⟨[(2,.k,.int (pickI [-1,0,1,7,8,23,24,31,32,63,64,99,100,255,256,257,1000,1001,1023,1024,1000000,1000001,1099511627776,9223372036854775807,-9223372036854775808] (rawV L p)))],[.box (.agg [.sl 1 (L.map AV.int) false,.int (((rawP L p):Nat):Int)])]⟩ [0])))
def wldM_vc(L:(List Int))(p:Nat)(r0:Tap×Int):Prop:=(wldM_x L p).vc wldM_e wldM_b r0
theorem wldM_p(L:List Int)(p:Nat)(ok:wldM_a L p):wldM_vc L p (⟨L,rawP L p⟩,wldT L p):=by
 dsimp only[wldM_vc,wldM_x,noS,Ax.vp,Ax.vc];simp only[vcU,rfU,List.length_map]
 exact⟨by simp,rfl⟩
def wldM_h(L:(List Int))(p:Nat):HC Tryz.prog:=⟨57,[.k],[.ref 0 0],[.box (.agg [.sl 1 (L.map AV.int) false,.int ((p:Nat):Int)])],wldM_e ((⟨L,rawP L p⟩,wldT L p):Tap×Int),wldM_b ((⟨L,rawP L p⟩,wldT L p):Tap×Int),HSpec.of_okh λok ok2=>have ok:wldM_a L p:=⟨ok,ok2 _ (by simp)⟩;mxH_of (sh:=.k) (enc:=wldM_e) (hB:=wldM_b) (a:=(wldM_x L p).an) (wldM_p L p ok) (by kernel_rfl),fnB_ok (by kernel_rfl),HcOk.of (by simp[hcB,belBL,AV.belB,allB,okBk,okBkO,wldM_e,wldM_b,pureBL_map (v:=AV.int) (λ_=>rfl)])⟩
def newM_a(l:(List Int)):Prop:=okL [.sl 1 (l.map AV.int) false]
def newM_e(r:Tap):AV:=.ref 0 0
def newM_b(r:Tap):List (Option Blk):=[some (.box (.agg [.sl 1 (r.L.map AV.int) false,.int ((r.p:Nat):Int)]))]
def newM_x(l:(List Int)):Ax Tryz.prog noS (Tap):=
 (.br 64 (decide (600<((l.map AV.int).length:Int))) (.say (λR=>Rf (α:=List AV) (l.map AV.int) (ck (bndB l.length 0 600 (l.length:Int))
R)) (.sub 80 AV.int l false
(.retH (⟨(l.take 600).drop 0,0⟩:Tap) ⟨[(2,.k,.ref 0 0)],[.box (.agg [.sl 1 (((l.take 600).drop 0).map AV.int) false,.int 0])]⟩ [144])))
(.retH (⟨l,0⟩:Tap) ⟨[(2,.k,.ref 0 0)],[.box (.agg [.sl 1 (l.map AV.int) false,.int 0])]⟩ [96]))
def newM_vc(l:(List Int))(r0:Tap):Prop:=(newM_x l).vc newM_e newM_b r0
theorem newM_p(t:List Int)(ok:newM_a t):newM_vc t ⟨t.take 600,0⟩:=by
 simp only[newM_a,okU,Blk.ok,plainV,List.length_map]at ok
 dsimp only[newM_vc,newM_x,noS,Ax.vp,Ax.vc];simp only[vcU,rfU,List.length_map]
 refine⟨λh=>⟨by simp[bndB];omega,by rw[List.drop_zero]⟩,λh=>by rw[List.take_of_length_le (by omega)]⟩
def newM_h(l:(List Int)):HC Tryz.prog:=⟨6,[(.s 1)],[.sl 1 (l.map AV.int) false],[],newM_e (⟨l.take 600,0⟩:Tap),newM_b (⟨l.take 600,0⟩:Tap),HSpec.of_okh λok _=>mxH_of (sh:=.k) (enc:=newM_e) (hB:=newM_b) (a:=(newM_x l).an) (newM_p l ok) (by kernel_rfl),fnB_ok (by kernel_rfl),HcOk.of (by simp[hcB,belBL,AV.belB,allB,okBk,okBkO,newM_e,newM_b,pureBL_map (v:=AV.int) (λ_=>rfl)])⟩
theorem insAt_len{α:Type}(l:List α)(k:Nat)(x:α)(h:k≤l.length):(insAt l k x).length=l.length+1:=by
 unfold insAt;simp;omega
theorem insAt_eqH{α:Type}{l:List α}{k:Nat}{x:α}:(((l.take k).drop 0)++[x])++((l.take ((l.length:Int).toNat)).drop k)=insAt l k x:=by rw[List.append_assoc,insAt_eqG]
def rouM(L:List Int)(p:Nat)(g:Tpl)(n:Int):Int×Nat:=
 if(0<n∧oneT L p n=true)∨g.rs.length=0 then(pickI [0,1,2,7,77,-1] (rawV L (if 0<n then rawP L p else p)),rawP L (if 0<n then rawP L p else p))
 else((g.rs.map Rtr.id).getD (Mod (rawV L (if 0<n then rawP L p else p)) g.rs.length).toNat 0,rawP L (if 0<n then rawP L p else p))
def rouM_a(L:(List Int))(p:Nat)(g:Tpl)(n:Int):Prop:=okL [.ref 0 0,.agg [.sl 2 (g.rs.map Rtr.v) false,.sl 5 (g.ls.map Lnk.v) false],.int n]∧(.box (.agg [.sl 1 (L.map AV.int) false,.int ((p:Nat):Int)]):Blk).ok
def rouM_n0(L:(List Int))(g:Tpl)(t0:Bool×Nat):NF:=⟨[(0,.k,.ref 0 0),(4,.k,.ref 1 0),(19,.k,.bool t0.1)],[.box (.agg [.sl 1 (L.map AV.int) false,.int ((t0.2:Nat):Int)]),.box (.agg [.sl 2 (g.rs.map Rtr.v) false,.sl 5 (g.ls.map Lnk.v) false])]⟩
@[reducible] def rouM_s:Nat→Type
 | 0=>Bool×Nat
 | _=>Unit
def rouM_e(r:Tap×Int):AV:=.int r.2
def rouM_b(r:Tap×Int):List (Option Blk):=[some (.box (.agg [.sl 1 (r.1.L.map AV.int) false,.int ((r.1.p:Nat):Int)]))]
def rouM_x(L:(List Int))(p:Nat)(g:Tpl)(n:Int)(I0:(Bool×Nat)→Prop):Ax Tryz.prog rouM_s (Tap×Int):=
 (.pass (.pass (.join 0 (rouM_n0 L g) (λ(t0:Bool×Nat)=>I0 t0) (λb0=>(.br 81 (decide (0<n)) (.callH [0] (oneM_h L p n) 113
(.br 161 (oneT L p n) (.bk 0 b0 (true,rawP L p) [0,1])
(.bk 0 b0 (((g.rs.map Rtr.v).length:Int)==0,rawP L p) [0,1])))
(.bk 0 b0 (((g.rs.map Rtr.v).length:Int)==0,p) [0,1]))) λ(t0:Bool×Nat) =>
(.br 2 t0.1 (.req 34 ([0,1,2,7,77,-1]≠[]) λh1 =>
(.callH [0] (pckM_h L t0.2 [0,1,2,7,77,-1] h1) 34
(.retH ((⟨L,rawP L t0.2⟩:Tap),pickI [0,1,2,7,77,-1] (rawV L t0.2)) ⟨[(6,.k,.int (pickI [0,1,2,7,77,-1] (rawV L t0.2)))],[.box (.agg [.sl 1 (L.map AV.int) false,.int (((rawP L t0.2):Nat):Int)])]⟩ [0])))
(.callH [0] (nxtM_h L t0.2 ((g.rs.map Rtr.v).length:Int)) 98
(.el 114 Rtr.v g.rs (λR=>Rf (g.rs.map Rtr.v) (ck (decide (0≤(Mod (rawV L t0.2) ((g.rs.map Rtr.v).length:Int)))) (ck (decide ((Mod (rawV L t0.2) ((g.rs.map Rtr.v).length:Int))<(g.rs.length:Int)))
(∀x2,g.rs[(Mod (rawV L t0.2) ((g.rs.map Rtr.v).length:Int)).toNat]?=some x2 →
(R x2))))) λx2 =>
(.retH ((⟨L,rawP L t0.2⟩:Tap),x2.id) ⟨[(6,.k,.int x2.id)],[.box (.agg [.sl 1 (L.map AV.int) false,.int (((rawP L t0.2):Nat):Int)])]⟩ [0])))))))
def rouM_vc(L:(List Int))(p:Nat)(g:Tpl)(n:Int)(I0:(Bool×Nat)→Prop)(r0:Tap×Int):Prop:=(rouM_x L p g n I0).vc rouM_e rouM_b r0
theorem rouM_p(L:List Int)(p:Nat)(g:Tpl)(n:Int)(ok:rouM_a L p g n):∃I0,rouM_vc L p g n I0 ((⟨L,(rouM L p g n).2⟩:Tap),(rouM L p g n).1):=by
  refine⟨λs=>s=(decide ((0<n∧oneT L p n=true)∨g.rs.length=0),if 0<n then rawP L p else p),?_⟩
  dsimp only[rouM_vc,rouM_x,rouM_s,Ax.vp,Ax.vc];simp only[vcU,rfU,List.length_map]
  refine⟨⟨λc=>⟨λd=>by simp[c,d],λd=>?_⟩,λc=>?_⟩,?_⟩
  · rw[if_pos c,d]
    refine Prod.ext ?_ rfl
    rw[Bool.eq_iff_iff];simp
  · rw[if_neg c]
    refine Prod.ext ?_ rfl
    rw[Bool.eq_iff_iff];simp[c]
  rintro _ rfl
  unfold rouM
  simp only
  refine⟨λc=>⟨by simp,by rw[if_pos (of_decide_eq_true c)]⟩,λc=>?_⟩
  have c:=of_decide_eq_false c
  rw[if_neg c]
  have hl : 1 ≤ (g.rs.length : Int) := by have : ¬ g.rs.length = 0 := fun q => c (.inr q)
                                          omega
  have hm:=Mod_range (x:=rawV L (if 0<n then rawP L p else p)) hl
  refine⟨hm.1,hm.2,λx hx=>?_⟩
  refine Prod.ext rfl ?_
  simp only
  rw[List.getD_eq_getElem?_getD,List.getElem?_map,hx];rfl
def rouM_h(L:(List Int))(p:Nat)(g:Tpl)(n:Int):HC Tryz.prog:=⟨8,[.k,(.a [(.s 2),(.s 5)]),.k],[.ref 0 0,.agg [.sl 2 (g.rs.map Rtr.v) false,.sl 5 (g.ls.map Lnk.v) false],.int n],[.box (.agg [.sl 1 (L.map AV.int) false,.int ((p:Nat):Int)])],rouM_e ((⟨L,(rouM L p g n).2⟩:Tap),(rouM L p g n).1),rouM_b ((⟨L,(rouM L p g n).2⟩:Tap),(rouM L p g n).1),HSpec.of_okh λok ok2=>have ok:rouM_a L p g n:=⟨ok,ok2 _ (by simp)⟩;(rouM_p L p g n ok).elim λI0 h=>mxH_of (sh:=.k) (enc:=rouM_e) (hB:=rouM_b) (a:=(rouM_x L p g n I0).an) h (by kernel_rfl),fnB_ok (by kernel_rfl),HcOk.of (by simp[hcB,belBL,AV.belB,allB,okBk,okBkO,rouM_e,rouM_b,pureBL_map (v:=AV.int) (λ_=>rfl),pureBL_map (v:=Lnk.v) (λ_=>rfl),pureBL_map (v:=Rtr.v) (λ_=>rfl)])⟩
def posK(out:List Lnk)(x:Lnk):Nat:=out.findIdx λy=>!decide (lnkL y x)
def ordK:List Lnk→List Lnk→List Lnk
 | [],out=>out
 | x::l,out=>ordK l (insAt out (posK out x) x)
def orlM_a(l:(List Lnk)):Prop:=okL [.sl 5 (l.map Lnk.v) false]
def orlM_n0(l:(List Lnk))(t0:Int×(List Lnk)):NF:=⟨[(0,.k,.sl 5 (l.map Lnk.v) false),(3,.k,.vec 0),(4,.k,.int t0.1)],[.vec 5 (t0.2.map Lnk.v) (pureBL_map (λ_=>rfl) t0.2)]⟩
def orlM_n1(l:(List Lnk))(t0:Int×(List Lnk))(t1:Int):NF:=⟨[(0,.k,.sl 5 (l.map Lnk.v) false),(3,.k,.vec 0),(4,.k,.int t0.1),(5,.k,.int t1)],[.vec 5 (t0.2.map Lnk.v) (pureBL_map (λ_=>rfl) t0.2)]⟩
def orlM_n2(l:(List Lnk))(t0:Int×(List Lnk))(t1:Int)(t2:Bool):NF:=⟨[(0,.k,.sl 5 (l.map Lnk.v) false),(3,.k,.vec 0),(4,.k,.int t0.1),(5,.k,.int t1),(55,.k,.bool t2)],[.vec 5 (t0.2.map Lnk.v) (pureBL_map (λ_=>rfl) t0.2)]⟩
@[reducible] def orlM_s:Nat→Type
 | 0=>Int×(List Lnk)
 | 1=>Int
 | 2=>Bool
 | _=>Unit
def orlM_e(r:(List Lnk)):AV:=.vec 0
def orlM_b(r:(List Lnk)):List (Option Blk):=[some (.vec 5 (r.map Lnk.v))]
def orlM_x(l:(List Lnk))(I0:(Int×(List Lnk))→Prop)(m0:(Int×(List Lnk))→Nat)(I1:Int×(List Lnk)→Int→Prop)(m1:Int×(List Lnk)→Int→Nat)(I2:Int×(List Lnk)→Int→Bool→Prop):Ax Tryz.prog orlM_s ((List Lnk)):=
 (.cmdL (.nilT 3 5) (.loop 0 (orlM_n0 l) I0 m0 (0,[]) [48] λ(t0:Int×(List Lnk)) b0 =>
(.br 65 (decide (t0.1<((l.map Lnk.v).length:Int))) (.loop 1 (orlM_n1 l t0) (I1 t0) (m1 t0) ((0):Int) [0] λ(t1:Int) b1 =>
(.pass (.join 2 (orlM_n2 l t0 t1) (λ(t2:Bool)=>I2 t0 t1 t2) (λb2=>(.br 81 (decide (t1<((t0.2.map Lnk.v).length:Int))) (.say (ck (cond (decide (0≤t1)) (decide (t1<((t0.2.map Lnk.v).length:Int))) false)) (.el 145 Lnk.v t0.2 (λR=>Rf (t0.2.map Lnk.v) (ck (decide (t1.toNat<t0.2.length))
(∀x1,t0.2[t1.toNat]?=some x1 →
(R x1)))) λx1 =>
(.el 193 Lnk.v l (λR=>Rf (l.map Lnk.v) (ck (decide (0≤t0.1)) (ck (decide (t0.1<(l.length:Int)))
(∀x2,l[t0.1.toNat]?=some x2 →
(R x2))))) λx2 =>
(.br 273 (decide (x1.a<x2.a)) (.bk 2 b2 ((true):Bool) [0])
(.say (ck (cond (decide (0≤t1)) (decide (t1<((t0.2.map Lnk.v).length:Int))) false)) (.el 337 Lnk.v t0.2 (λR=>Rf (t0.2.map Lnk.v) (ck (decide (t1.toNat<t0.2.length))
(∀x3,t0.2[t1.toNat]?=some x3 →
(R x3)))) λx3 =>
(.el 385 Lnk.v l (λR=>Rf (l.map Lnk.v) (ck (decide (0≤t0.1)) (ck (decide (t0.1<(l.length:Int)))
(∀x4,l[t0.1.toNat]?=some x4 →
(R x4))))) λx4 =>
(.br 465 (x3.a==x4.a) (.say (ck (cond (decide (0≤t1)) (decide (t1<((t0.2.map Lnk.v).length:Int))) false)) (.el 529 Lnk.v t0.2 (λR=>Rf (t0.2.map Lnk.v) (ck (decide (t1.toNat<t0.2.length))
(∀x5,t0.2[t1.toNat]?=some x5 →
(R x5)))) λx5 =>
(.el 577 Lnk.v l (λR=>Rf (l.map Lnk.v) (ck (decide (0≤t0.1)) (ck (decide (t0.1<(l.length:Int)))
(∀x6,l[t0.1.toNat]?=some x6 →
(R x6))))) λx6 =>
(.bk 2 b2 ((decide (x5.b<x6.b)):Bool) [0]))))
(.bk 2 b2 ((false):Bool) [0])))))))))
(.bk 2 b2 ((false):Bool) [0]))) λ(t2:Bool) =>
(.br 1 t2 (.bk 1 b1 ((W (t1+1)):Int) [0])
(.wait (.say (Rf (t0.2.map Lnk.v)) (.cmd (.frzE 0 (t0.2.map Lnk.v) (pureBL_map (λ_=>rfl) t0.2)) (.say (λR=>Rf (α:=List AV) (t0.2.map Lnk.v) (ck (bndB t0.2.length 0 t1 (t0.2.length:Int))
R)) (.sub 65 Lnk.v t0.2 false
(.say (λR=>Rf (α:=List AV) [] (Rf (α:=List AV) (((t0.2.take t1.toNat).drop 0).map Lnk.v)
(ck (decide (0+((t0.2.take t1.toNat).drop 0).length≤1048576))
R))) (.app 81 Lnk.v [] ((t0.2.take t1.toNat).drop 0)
(.el 161 Lnk.v l (λR=>Rf (l.map Lnk.v) (ck (decide (0≤t0.1)) (ck (decide (t0.1<(l.length:Int)))
(∀x7,l[t0.1.toNat]?=some x7 →
(R x7))))) λx7 =>
(.own 193 (.say (λR=>Rf (α:=List AV) (((t0.2.take t1.toNat).drop 0).map Lnk.v) (Rf (α:=List AV) [.agg [.int x7.a,.int x7.b,.int x7.ca,.int x7.cb,.int x7.w]]
(ck (decide (((t0.2.take t1.toNat).drop 0).length+1≤1048576))
R))) (.app 209 Lnk.v ((t0.2.take t1.toNat).drop 0) [x7]
(.say (λR=>Rf (α:=List AV) (t0.2.map Lnk.v) (ck (bndB t0.2.length t1 (t0.2.length:Int) (t0.2.length:Int))
R)) (.sub 289 Lnk.v t0.2 false
(.say (λR=>Rf (α:=List AV) ((((t0.2.take t1.toNat).drop 0)++[x7]).map Lnk.v) (Rf (α:=List AV) (((t0.2.take ((t0.2.length:Int).toNat)).drop t1.toNat).map Lnk.v)
(ck (decide ((((t0.2.take t1.toNat).drop 0)++[x7]).length+((t0.2.take ((t0.2.length:Int).toNat)).drop t1.toNat).length≤1048576))
R))) (.app 305 Lnk.v (((t0.2.take t1.toNat).drop 0)++[x7]) ((t0.2.take ((t0.2.length:Int).toNat)).drop t1.toNat)
(.bk 0 b0 (W (t0.1+1),(((t0.2.take t1.toNat).drop 0)++[x7])++((t0.2.take ((t0.2.length:Int).toNat)).drop t1.toNat)) [305]))))))))))))))))))))
(.retH t0.2 ⟨[(2,.k,.vec 0)],[.vec 5 (t0.2.map Lnk.v) (pureBL_map (λ_=>rfl) t0.2)]⟩ [0]))))
def orlM_vc(l:(List Lnk))(I0:(Int×(List Lnk))→Prop)(m0:(Int×(List Lnk))→Nat)(I1:Int×(List Lnk)→Int→Prop)(m1:Int×(List Lnk)→Int→Nat)(I2:Int×(List Lnk)→Int→Bool→Prop)(r0:(List Lnk)):Prop:=(orlM_x l I0 m0 I1 m1 I2).vc orlM_e orlM_b r0
theorem posK_eq{out:List Lnk}{x:Lnk}{j:Nat}(hj:j≤out.length)(h1:∀y∈out.take j,lnkL y x)(h2:∀y,out[j]?=some y→¬lnkL y x):posK out x=j:=by
 unfold posK
 by_cases e:j=out.length
 ·subst e
  rw[List.take_length]at h1
  rw[List.findIdx_eq_length]
  intro y hy
  simp[h1 y hy]
 ·rw[List.findIdx_eq (by omega)]
  refine⟨?_,λi hi=>?_⟩
  ·have:=h2 _ (List.getElem?_eq_getElem (by omega))
   simp[this]
  ·have:=h1 (out[i]'(by omega)) (List.mem_take_iff_getElem.mpr ⟨i,by omega,rfl⟩)
   simp[this]
theorem orlM_p(l:List Lnk)(h:l.length≤1000)(ok:orlM_a l):∃I0 m0 I1 m1 I2,orlM_vc l I0 m0 I1 m1 I2 (ordK l []):=by
 refine⟨λs=>∃k:Nat,s.1=k∧k≤l.length∧s.2.length=k∧ordK (l.drop k) s.2=ordK l [],λs=>l.length-s.1.toNat,
  λs t=>ForI s.2 (λy=>∀x,l[s.1.toNat]?=some x→lnkL y x) t,λs t=>s.2.length-t.toNat,λs t b=>b=true↔t<s.2.length∧∀x y,l[s.1.toNat]?=some x→s.2[t.toNat]?=some y→lnkL y x,?_⟩
 dsimp only[orlM_vc,orlM_x,orlM_s,Ax.vp,Ax.vc];simp only[vcU,rfU,List.length_map]
 refine⟨⟨0,rfl,by omega,rfl,by simp⟩,?_⟩
 rintro⟨i,out⟩ ⟨k,hi,hk,hl,hr⟩
 simp only at hi hl hr ⊢
 subst hi;subst hl
 simp only[Int.toNat_natCast]
 refine⟨λc=>?_,λc=>?_⟩
 ·have hx:=List.getElem?_eq_getElem (show out.length<l.length by omega)
  generalize l[out.length]=x at hx
  refine⟨ForI.zero,λt hI=>?_⟩
  obtain⟨j,rfl,hj,ha⟩:=hI
  have ha':∀y∈out.take j,lnkL y x:=λy hy=>ha y hy x hx
  have hI:ForI out (λy=>∀x,l[out.length]?=some x→lnkL y x) ((j:Nat):Int):=⟨j,rfl,hj,ha⟩
  simp only[Int.toNat_natCast]
  refine⟨⟨λd=>?_,λd=>⟨nofun,λq=>absurd q.1 d⟩⟩,λb hb=>?_⟩
  ·have hy:=List.getElem?_eq_getElem (show j<out.length by omega)
   generalize out[j]=y at hy
   have rg:(bif decide (0≤((j:Nat):Int))then decide (((j:Nat):Int)<out.length)else false)=true:=range2 (by omega) d
   refine⟨rg,by omega,λx1 h1=>⟨by omega,c,λx2 h2=>?_⟩⟩
   rw[hy]at h1;cases h1;rw[hx]at h2;cases h2
   refine⟨λe=>⟨λ_=>⟨d,λx' y' hx' hy'=>?_⟩,λ_=>trivial⟩,λe=>⟨rg,by omega,λx3 h3=>⟨by omega,c,λx4 h4=>?_⟩⟩⟩
   ·rw[hx]at hx';cases hx';rw[hy]at hy';cases hy';exact .inl e
   rw[hy]at h3;cases h3;rw[hx]at h4;cases h4
   refine⟨λe2=>⟨rg,by omega,λx5 h5=>⟨by omega,c,λx6 h6=>?_⟩⟩,λe2=>⟨nofun,λq=>?_⟩⟩
   ·rw[hy]at h5;cases h5;rw[hx]at h6;cases h6
    have e2:=eq_of_beq e2
    refine⟨λe3=>⟨d,λx' y' hx' hy'=>?_⟩,λq=>?_⟩
    ·rw[hx]at hx';cases hx';rw[hy]at hy';cases hy';exact .inr ⟨e2,e3⟩
    ·have:=q.2 x y hx hy;unfold lnkL at this;omega
   ·have:=q.2 x y hx hy
    have e2:¬y.a=x.a:=by simpa using e2
    unfold lnkL at this;omega
  ·refine⟨λe=>?_,λe=>?_⟩
   ·obtain⟨d,hd⟩:=hb.mp e
    have hy:=List.getElem?_eq_getElem (show j<out.length by omega)
    exact hI.step (by omega) (by rw[Int.toNat_natCast];exact hy) λx' hx'=>hd x' _ hx' hy
   ·have hp:posK out x=j:=posK_eq hj ha' λy hy q=>by
     have:=hb.mpr ⟨by have:=lt_of_get hy;omega,λx' y' hx' hy'=>by rw[hx]at hx';cases hx';rw[hy]at hy';cases hy';exact q⟩
     rw[e]at this;cases this
    refine⟨by simp[bndB];omega,by simp;omega,by omega,c,λx7 h7=>?_⟩
    rw[hx]at h7;cases h7
    have hi:(((out.take j).drop 0)++[x])++((out.take out.length).drop j)=insAt out j x:=by have:=insAt_eqH (l:=out) (k:=j) (x:=x);rwa [Int.toNat_natCast]at this
    rw[hi,W_succ (n:=l.length) (by omega) (by omega)]
    refine⟨by simp;omega,by simp[bndB];omega,by simp;omega,⟨out.length+1,rfl,by omega,insAt_len _ _ _ hj,?_⟩,by omega⟩
    rw[List.drop_eq_getElem_cons (by omega),ordK]at hr
    have:l[out.length]'(by omega)=x:=by rw[List.getElem?_eq_getElem (by omega)]at hx;exact Option.some.inj hx
    rw[this,hp]at hr
    exact hr
 ·have:out.length=l.length:=by omega
  rw[this,List.drop_length,ordK]at hr
  exact hr
def orlM_h(l:(List Lnk))(h:l.length≤1000):HC Tryz.prog:=⟨56,[(.s 5)],[.sl 5 (l.map Lnk.v) false],[],orlM_e (ordK l []),orlM_b (ordK l []),HSpec.of_okh λok _=>(orlM_p l h ok).elim λI0 h=>h.elim λm0 h=>h.elim λI1 h=>h.elim λm1 h=>h.elim λI2 h=>mxH_of (sh:=.k) (enc:=orlM_e) (hB:=orlM_b) (a:=(orlM_x l I0 m0 I1 m1 I2).an) h (by kernel_rfl),fnB_ok (by kernel_rfl),HcOk.of (by simp[hcB,belBL,AV.belB,allB,okBk,okBkO,orlM_e,orlM_b,pureBL_map (v:=Lnk.v) (λ_=>rfl)])⟩
def rtsM(k:Nat):List Rtr:=(List.range k).map λi=>⟨((i+1:Nat):Int),true⟩
def cnM(L:List Int)(a tree:Int)(skip:Bool)(p:Nat):Bool×Nat:=if(a==tree)=true∧skip=false then(true,p)else(oneT L p 3,rawP L p)
def lkM1(L:List Int)(cost a b:Int)(p:Nat):Lnk:=⟨a,b,rng L p 1 cost,rng L (rawP L p) 1 cost,Mod (rawV L (rawP L (rawP L p))) 4⟩
def inM(L:List Int)(cost b tree:Int)(skip:Bool):Nat→Int→List Lnk→Nat→List Lnk×Nat
 | 0,_,ls,p=>(ls,p)
 | f+1,a,ls,p=>if(cnM L a tree skip p).1=true then inM L cost b tree skip f (a+1) (ls++[lkM1 L cost a b (cnM L a tree skip p).2]) (rawP L (rawP L (rawP L (cnM L a tree skip p).2)))
  else inM L cost b tree skip f (a+1) ls (cnM L a tree skip p).2
def inR(L:List Int)(cost b:Int)(ls:List Lnk)(p:Nat):List Lnk×Nat:=inM L cost b (rng L p 1 (W (b-1))) (oneT L (rawP L p) 9) (b-1).toNat 1 ls (rawP L (rawP L p))
def ouM(L:List Int)(cost:Int):Nat→Int→List Lnk→Nat→List Lnk×Nat
 | 0,_,ls,p=>(ls,p)
 | f+1,b,ls,p=>ouM L cost f (b+1) (inR L cost b ls p).1 (inR L cost b ls p).2
def farM(j:Nat):List Rtr:=(List.range j).map λi=>⟨((50+i:Nat):Int),false⟩
def ixM(L:List Int)(p:Nat)(g:Tpl):Nat:=(Mod (rawV L p) g.ls.length).toNat
def spoM(L:List Int)(p:Nat)(g:Tpl):Tpl×Nat:=
 if Mod (rawV L p) 7=0 then(⟨g.rs++[⟨pickI [0,1,99,100,-1] (rawV L (rawP L p)),false⟩],g.ls⟩,rawP L (rawP L p))
 else if Mod (rawV L p) 7=1 then(⟨g.rs,g.ls++[⟨Mod (rawV L (rawP L p)) 4,Mod (rawV L (rawP L (rawP L p))) 4,1,1,0⟩]⟩,rawP L (rawP L (rawP L p)))
 else if Mod (rawV L p) 7=2 then(match g.ls[ixM L (rawP L p) g]? with
  | some y=>(⟨g.rs,g.ls.set (ixM L (rawP L p) g) ⟨y.a,y.b,wldT L (rawP L (rawP L p)),y.cb,y.w⟩⟩,rawP L (rawP L (rawP L p)))
  | none=>(g,rawP L p))
 else if Mod (rawV L p) 7=3 then(match g.ls[ixM L (rawP L p) g]? with
  | some y=>(⟨g.rs,g.ls.set (ixM L (rawP L p) g) ⟨y.a,y.b,y.ca,wldT L (rawP L (rawP L p)),y.w⟩⟩,rawP L (rawP L (rawP L p)))
  | none=>(g,rawP L p))
 else if Mod (rawV L p) 7=4 then(match g.ls[ixM L (rawP L p) g]? with
  | some y=>(⟨g.rs,g.ls.set (ixM L (rawP L p) g) ⟨y.a,y.b,y.ca,y.cb,wldT L (rawP L (rawP L p))⟩⟩,rawP L (rawP L (rawP L p)))
  | none=>(g,rawP L p))
 else if Mod (rawV L p) 7=5 then(match g.ls[ixM L (rawP L p) g]? with
  | some y=>(⟨g.rs,g.ls++[y]⟩,rawP L (rawP L p))
  | none=>(g,rawP L p))
 else(⟨g.rs++farM 25,g.ls⟩,rawP L p)
def cstM(L:List Int)(p:Nat):Int:=pickI [1,2,2,5] (rawV L (rawP L p))
def topO(L:List Int)(p:Nat)(most:Int):List Lnk×Nat:=ouM L (cstM L p) ((rng L p 1 most)-1).toNat 2 [] (rawP L (rawP L p))
def topB(L:List Int)(p:Nat)(most:Int):Tpl:=⟨rtsM (rng L p 1 most).toNat,ordK (topO L p most).1 []⟩
def topM(L:List Int)(p:Nat)(most n:Int):Tpl×Nat:=
 if 0<n∧oneT L (topO L p most).2 n=true then spoM L (rawP L (topO L p most).2) (topB L p most)else(topB L p most,if 0<n then rawP L (topO L p most).2 else(topO L p most).2)
theorem posK_le(out:List Lnk)(x:Lnk):posK out x≤out.length:=List.findIdx_le_length
theorem ordK_len:∀(l out:List Lnk),(ordK l out).length=l.length+out.length
 | [],out=>by simp[ordK]
 | x::l,out=>by rw[ordK,ordK_len l,insAt_len _ _ _ (posK_le _ _),List.length_cons];omega
theorem rtsM_len(k:Nat):(rtsM k).length=k:=by simp[rtsM]
theorem rtsM_succ(k:Nat):rtsM (k+1)=rtsM k++[⟨((k+1:Nat):Int),true⟩]:=by simp[rtsM,List.range_succ]
theorem farM_succ(k:Nat):farM (k+1)=farM k++[⟨((50+k:Nat):Int),false⟩]:=by simp[farM,List.range_succ]
theorem farM_len(k:Nat):(farM k).length=k:=by simp[farM]
theorem rng_1{L:List Int}{p:Nat}{m:Int}(h:1≤m∧m≤1000):1≤rng L p 1 m∧rng L p 1 m≤m:=by
 have hm:=Mod_range (x:=rawV L p) h.1
 unfold rng
 rw[W_eq (n:=m-1) (by omega),W_eq (n:=m-1+1) (by omega),show m-1+1=m by omega,W_eq (by omega)]
 omega
def topM_a(L:(List Int))(p:Nat)(most:Int)(n:Int):Prop:=okL [.ref 0 0,.int most,.int n]∧(.box (.agg [.sl 1 (L.map AV.int) false,.int ((p:Nat):Int)]):Blk).ok
def topM_n0(L:(List Int))(p:Nat)(most:Int)(n:Int)(t0:Int×(List Rtr)):NF:=⟨[(0,.k,.ref 0 0),(2,.k,.int n),(6,.k,.ref 1 0),(7,.k,.ref 2 0),(8,.k,.int (rng L p 1 most)),(9,.k,.int t0.1)],[.box (.agg [.sl 1 (L.map AV.int) false,.int (((rawP L p):Nat):Int)]),.box (.agg [.sl 0 [] true,.sl 0 [] true]),.box (.agg [.vec 3,.sl 0 [] true]),.vec 2 (t0.2.map Rtr.v) (pureBL_map (λ_=>rfl) t0.2)]⟩
def topM_n1(L:(List Int))(p:Nat)(most:Int)(n:Int)(t0:Int×(List Rtr))(t1:Int×Nat×(List Lnk)):NF:=⟨[(0,.k,.ref 0 0),(2,.k,.int n),(6,.k,.ref 1 0),(7,.k,.ref 2 0),(8,.k,.int (rng L p 1 most)),(10,.k,.int (pickI [1,2,2,5] (rawV L (rawP L p)))),(11,.k,.int t1.1)],[.box (.agg [.sl 1 (L.map AV.int) false,.int ((t1.2.1:Nat):Int)]),.box (.agg [.sl 0 [] true,.sl 0 [] true]),.box (.agg [.vec 3,.vec 4]),.vec 2 (t0.2.map Rtr.v) (pureBL_map (λ_=>rfl) t0.2),.vec 5 (t1.2.2.map Lnk.v) (pureBL_map (λ_=>rfl) t1.2.2)]⟩
def topM_n2(L:(List Int))(p:Nat)(most:Int)(n:Int)(t0:Int×(List Rtr))(t1:Int×Nat×(List Lnk))(t2:Int×(List Lnk)×Nat):NF:=⟨[(0,.k,.ref 0 0),(2,.k,.int n),(6,.k,.ref 1 0),(7,.k,.ref 2 0),(8,.k,.int (rng L p 1 most)),(10,.k,.int (pickI [1,2,2,5] (rawV L (rawP L p)))),(11,.k,.int t1.1),(12,.k,.int (rng L t1.2.1 1 (W (t1.1-1)))),(13,.k,.bool (oneT L (rawP L t1.2.1) 9)),(14,.k,.int t2.1)],[.box (.agg [.sl 1 (L.map AV.int) false,.int ((t2.2.2:Nat):Int)]),.box (.agg [.sl 0 [] true,.sl 0 [] true]),.box (.agg [.vec 3,.vec 4]),.vec 2 (t0.2.map Rtr.v) (pureBL_map (λ_=>rfl) t0.2),.vec 5 (t2.2.1.map Lnk.v) (pureBL_map (λ_=>rfl) t2.2.1)]⟩
def topM_n3(L:(List Int))(p:Nat)(most:Int)(n:Int)(t0:Int×(List Rtr))(t1:Int×Nat×(List Lnk))(t2:Int×(List Lnk)×Nat)(t3:Bool×Nat):NF:=⟨[(0,.k,.ref 0 0),(2,.k,.int n),(6,.k,.ref 1 0),(7,.k,.ref 2 0),(8,.k,.int (rng L p 1 most)),(10,.k,.int (pickI [1,2,2,5] (rawV L (rawP L p)))),(11,.k,.int t1.1),(12,.k,.int (rng L t1.2.1 1 (W (t1.1-1)))),(13,.k,.bool (oneT L (rawP L t1.2.1) 9)),(14,.k,.int t2.1),(60,.k,.bool t3.1)],[.box (.agg [.sl 1 (L.map AV.int) false,.int ((t3.2:Nat):Int)]),.box (.agg [.sl 0 [] true,.sl 0 [] true]),.box (.agg [.vec 3,.vec 4]),.vec 2 (t0.2.map Rtr.v) (pureBL_map (λ_=>rfl) t0.2),.vec 5 (t2.2.1.map Lnk.v) (pureBL_map (λ_=>rfl) t2.2.1)]⟩
def topM_n4(L:(List Int))(t0:Int×(List Rtr))(t1:Int×Nat×(List Lnk))(t4:Bool×Nat):NF:=⟨[(0,.k,.ref 0 0),(6,.k,.ref 1 0),(7,.k,.ref 2 0),(87,.k,.bool t4.1)],[.box (.agg [.sl 1 (L.map AV.int) false,.int ((t4.2:Nat):Int)]),.box (.agg [.sl 0 [] true,.sl 0 [] true]),.box (.agg [.vec 3,.vec 4]),.vec 2 (t0.2.map Rtr.v) (pureBL_map (λ_=>rfl) t0.2),.vec 5 ((ordK t1.2.2 []).map Lnk.v) (pureBL_map (λ_=>rfl) (ordK t1.2.2 []))]⟩
def topM_n5(L:(List Int))(t1:Int×Nat×(List Lnk))(t4:Bool×Nat)(t5:Int×(List Rtr)):NF:=⟨[(6,.k,.ref 1 0),(7,.k,.ref 2 0),(15,.k,.int t5.1)],[.box (.agg [.sl 1 (L.map AV.int) false,.int (((rawP L t4.2):Nat):Int)]),.box (.agg [.sl 0 [] true,.sl 0 [] true]),.box (.agg [.vec 3,.vec 4]),.vec 2 (t5.2.map Rtr.v) (pureBL_map (λ_=>rfl) t5.2),.vec 5 ((ordK t1.2.2 []).map Lnk.v) (pureBL_map (λ_=>rfl) (ordK t1.2.2 []))]⟩
@[reducible] def topM_s:Nat→Type
 | 0=>Int×(List Rtr)
 | 1=>Int×Nat×(List Lnk)
 | 2=>Int×(List Lnk)×Nat
 | 3=>Bool×Nat
 | 4=>Bool×Nat
 | 5=>Int×(List Rtr)
 | _=>Unit
def topM_e(r:Tap×Tpl):AV:=.agg [.vec 1,.vec 2]
def topM_b(r:Tap×Tpl):List (Option Blk):=[some (.box (.agg [.sl 1 (r.1.L.map AV.int) false,.int ((r.1.p:Nat):Int)])),some (.vec 2 (r.2.rs.map Rtr.v)),some (.vec 5 (r.2.ls.map Lnk.v))]
def topM_x(L:(List Int))(p:Nat)(most:Int)(n:Int)(I0:(Int×(List Rtr))→Prop)(m0:(Int×(List Rtr))→Nat)(I1:Int×(List Rtr)→(Int×Nat×(List Lnk))→Prop)(m1:Int×(List Rtr)→(Int×Nat×(List Lnk))→Nat)(I2:Int×(List Rtr)→Int×Nat×(List Lnk)→(Int×(List Lnk)×Nat)→Prop)(m2:Int×(List Rtr)→Int×Nat×(List Lnk)→(Int×(List Lnk)×Nat)→Nat)(I3:Int×(List Rtr)→Int×Nat×(List Lnk)→Int×(List Lnk)×Nat→(Bool×Nat)→Prop)(I4:Int×(List Rtr)→Int×Nat×(List Lnk)→(Bool×Nat)→Prop)(I5:Int×(List Rtr)→Int×Nat×(List Lnk)→Bool×Nat→(Int×(List Rtr))→Prop)(m5:Int×(List Rtr)→Int×Nat×(List Lnk)→Bool×Nat→(Int×(List Rtr))→Nat):Ax Tryz.prog topM_s (Tap×Tpl):=
 (.callH [0] (rngM_h L p 1 most) 65
(.cmdL (.nilB 17 0 2) (.loop 0 (topM_n0 L p most n) I0 m0 (1,[]) [0,1,17,113] λ(t0:Int×(List Rtr)) b0 =>
(.br 52 (decide (t0.1≤(rng L p 1 most))) (.say (λR=>Rf (α:=List AV) (t0.2.map Rtr.v) (Rf (α:=List AV) [.agg [.int t0.1,.bool true]]
(ck (decide (t0.2.length+1≤1048576))
R))) (.app 132 Rtr.v t0.2 [(⟨t0.1,true⟩:Rtr)]
(.bk 0 b0 (W (t0.1+1),t0.2++[(⟨t0.1,true⟩:Rtr)]) [0,1,2,132])))
(.req 84 ([1,2,2,5]≠[]) λh1 =>
(.callH [0] (pckM_h L (rawP L p) [1,2,2,5] h1) 84
(.cmdL (.nilB 2 1 5) (.loop 1 (topM_n1 L p most n t0) (I1 t0) (m1 t0) (2,rawP L (rawP L p),[]) [0,1,2,3,132] λ(t1:Int×Nat×(List Lnk)) b1 =>
(.br 53 (decide (t1.1≤(rng L p 1 most))) (.callH [0] (rngM_h L t1.2.1 1 (W (t1.1-1))) 101
(.callH [0] (oneM_h L (rawP L t1.2.1) 9) 149
(.loop 2 (topM_n2 L p most n t0 t1) (I2 t0 t1) (m2 t0 t1) (1,t1.2.2,rawP L (rawP L t1.2.1)) [0,1,2,3,4] λ(t2:Int×(List Lnk)×Nat) b2 =>
(.br 53 (decide (t2.1<t1.1)) (.pass (.join 3 (topM_n3 L p most n t0 t1 t2) (λ(t3:Bool×Nat)=>I3 t0 t1 t2 t3) (λb3=>(.br 117 (t2.1==(rng L t1.2.1 1 (W (t1.1-1)))) (.br 181 (!(oneT L (rawP L t1.2.1) 9)) (.bk 3 b3 (true,t2.2.2) [0,1,2,3,4])
(.callH [0] (oneM_h L t2.2.2 3) 197
(.bk 3 b3 (oneT L t2.2.2 3,rawP L t2.2.2) [0,1,2,3,4])))
(.callH [0] (oneM_h L t2.2.2 3) 197
(.bk 3 b3 (oneT L t2.2.2 3,rawP L t2.2.2) [0,1,2,3,4])))) λ(t3:Bool×Nat) =>
(.br 5 t3.1 (.callH [0] (rngM_h L t3.2 1 (pickI [1,2,2,5] (rawV L (rawP L p)))) 101
(.callH [0] (rngM_h L (rawP L t3.2) 1 (pickI [1,2,2,5] (rawV L (rawP L p)))) 149
(.callH [0] (nxtM_h L (rawP L (rawP L t3.2)) 4) 181
(.say (λR=>Rf (α:=List AV) (t2.2.1.map Lnk.v) (Rf (α:=List AV) [.agg [.int t2.1,.int t1.1,.int (rng L t3.2 1 (pickI [1,2,2,5] (rawV L (rawP L p)))),.int (rng L (rawP L t3.2) 1 (pickI [1,2,2,5] (rawV L (rawP L p)))),.int (Mod (rawV L (rawP L (rawP L t3.2))) 4)]]
(ck (decide (t2.2.1.length+1≤1048576))
R))) (.app 229 Lnk.v t2.2.1 [(⟨t2.1,t1.1,rng L t3.2 1 (pickI [1,2,2,5] (rawV L (rawP L p))),rng L (rawP L t3.2) 1 (pickI [1,2,2,5] (rawV L (rawP L p))),Mod (rawV L (rawP L (rawP L t3.2))) 4⟩:Lnk)]
(.bk 2 b2 (W (t2.1+1),t2.2.1++[(⟨t2.1,t1.1,rng L t3.2 1 (pickI [1,2,2,5] (rawV L (rawP L p))),rng L (rawP L t3.2) 1 (pickI [1,2,2,5] (rawV L (rawP L p))),Mod (rawV L (rawP L (rawP L t3.2))) 4⟩:Lnk)],rawP L (rawP L (rawP L t3.2))) [0,1,2,3,229]))))))
(.bk 2 b2 (W (t2.1+1),t2.2.1,t3.2) [0,1,2,3,4]))))
(.bk 1 b1 (W (t1.1+1),t2.2.2,t2.2.1) [0,1,2,3,4])))))
(.say (Rf (t1.2.2.map Lnk.v)) (.cmd (.frzE 4 (t1.2.2.map Lnk.v) (pureBL_map (λ_=>rfl) t1.2.2)) (.req 85 (t1.2.2.length≤1000) λh2 =>
(.callH [] (orlM_h t1.2.2 h2) 85
(.pass (.join 4 (topM_n4 L t0 t1) (λ(t4:Bool×Nat)=>I4 t0 t1 t4) (λb4=>(.br 181 (decide (0<n)) (.callH [0] (oneM_h L t1.2.1 n) 213
(.bk 4 b4 (oneT L t1.2.1 n,rawP L t1.2.1) [0,1,2,3,85]))
(.bk 4 b4 (false,t1.2.1) [0,1,2,3,85]))) λ(t4:Bool×Nat) =>
(.br 5 t4.1 (.callH [0] (nxtM_h L t4.2 7) 21
(.br 69 ((Mod (rawV L t4.2) 7)==0) (.req 133 ([0,1,99,100,-1]≠[]) λh3 =>
(.callH [0] (pckM_h L (rawP L t4.2) [0,1,99,100,-1] h3) 133
(.say (λR=>Rf (α:=List AV) (t0.2.map Rtr.v) (Rf (α:=List AV) [.agg [.int (pickI [0,1,99,100,-1] (rawV L (rawP L t4.2))),.bool false]]
(ck (decide (t0.2.length+1≤1048576))
R))) (.app 181 Rtr.v t0.2 [(⟨pickI [0,1,99,100,-1] (rawV L (rawP L t4.2)),false⟩:Rtr)]
(.retH ((⟨L,rawP L (rawP L t4.2)⟩:Tap),(⟨t0.2++[(⟨pickI [0,1,99,100,-1] (rawV L (rawP L t4.2)),false⟩:Rtr)],ordK t1.2.2 []⟩:Tpl)) ⟨[(6,.k,.ref 3 0)],[.box (.agg [.sl 1 (L.map AV.int) false,.int (((rawP L (rawP L t4.2)):Nat):Int)]),.vec 2 ((t0.2++[(⟨pickI [0,1,99,100,-1] (rawV L (rawP L t4.2)),false⟩:Rtr)]).map Rtr.v) (pureBL_map (λ_=>rfl) (t0.2++[(⟨pickI [0,1,99,100,-1] (rawV L (rawP L t4.2)),false⟩:Rtr)])),.vec 5 ((ordK t1.2.2 []).map Lnk.v) (pureBL_map (λ_=>rfl) (ordK t1.2.2 [])),.box (.agg [.vec 1,.vec 2])]⟩ [0,181,4,1])))))
(.br 101 ((Mod (rawV L t4.2) 7)==1) (.callH [0] (nxtM_h L (rawP L t4.2) 4) 149
(.callH [0] (nxtM_h L (rawP L (rawP L t4.2)) 4) 181
(.say (λR=>Rf (α:=List AV) ((ordK t1.2.2 []).map Lnk.v) (Rf (α:=List AV) [.agg [.int (Mod (rawV L (rawP L t4.2)) 4),.int (Mod (rawV L (rawP L (rawP L t4.2))) 4),.int 1,.int 1,.int 0]]
(ck (decide ((ordK t1.2.2 []).length+1≤1048576))
R))) (.app 229 Lnk.v (ordK t1.2.2 []) [(⟨Mod (rawV L (rawP L t4.2)) 4,Mod (rawV L (rawP L (rawP L t4.2))) 4,1,1,0⟩:Lnk)]
(.retH ((⟨L,rawP L (rawP L (rawP L t4.2))⟩:Tap),(⟨t0.2,(ordK t1.2.2 [])++[(⟨Mod (rawV L (rawP L t4.2)) 4,Mod (rawV L (rawP L (rawP L t4.2))) 4,1,1,0⟩:Lnk)]⟩:Tpl)) ⟨[(6,.k,.ref 3 0)],[.box (.agg [.sl 1 (L.map AV.int) false,.int (((rawP L (rawP L (rawP L t4.2))):Nat):Int)]),.vec 2 (t0.2.map Rtr.v) (pureBL_map (λ_=>rfl) t0.2),.vec 5 (((ordK t1.2.2 [])++[(⟨Mod (rawV L (rawP L t4.2)) 4,Mod (rawV L (rawP L (rawP L t4.2))) 4,1,1,0⟩:Lnk)]).map Lnk.v) (pureBL_map (λ_=>rfl) ((ordK t1.2.2 [])++[(⟨Mod (rawV L (rawP L t4.2)) 4,Mod (rawV L (rawP L (rawP L t4.2))) 4,1,1,0⟩:Lnk)])),.box (.agg [.vec 1,.vec 2])]⟩ [0,3,229,1])))))
(.br 133 ((Mod (rawV L t4.2) 7)==2) (.br 197 (decide (0<(((ordK t1.2.2 []).map Lnk.v).length:Int))) (.callH [0] (nxtM_h L (rawP L t4.2) (((ordK t1.2.2 []).map Lnk.v).length:Int)) 293
(.callH [0] (wldM_h L (rawP L (rawP L t4.2))) 325
(.say (ck (cond (decide (0≤(Mod (rawV L (rawP L t4.2)) (((ordK t1.2.2 []).map Lnk.v).length:Int)))) (decide ((Mod (rawV L (rawP L t4.2)) (((ordK t1.2.2 []).map Lnk.v).length:Int))<(((ordK t1.2.2 []).map Lnk.v).length:Int))) false)) (.st 373 Lnk.v (ordK t1.2.2 []) (λy4=>(⟨y4.a,y4.b,wldT L (rawP L (rawP L t4.2)),y4.cb,y4.w⟩:Lnk)) (λR=>Rf ((ordK t1.2.2 []).map Lnk.v) (ck (decide ((Mod (rawV L (rawP L t4.2)) (((ordK t1.2.2 []).map Lnk.v).length:Int)).toNat<(ordK t1.2.2 []).length))
(∀y4,(ordK t1.2.2 [])[(Mod (rawV L (rawP L t4.2)) (((ordK t1.2.2 []).map Lnk.v).length:Int)).toNat]?=some y4→Rf (Lnk.v (⟨y4.a,y4.b,wldT L (rawP L (rawP L t4.2)),y4.cb,y4.w⟩:Lnk))
((R y4))))) λy4 =>
(.retH ((⟨L,rawP L (rawP L (rawP L t4.2))⟩:Tap),(⟨t0.2,(ordK t1.2.2 []).set ((Mod (rawV L (rawP L t4.2)) (((ordK t1.2.2 []).map Lnk.v).length:Int)).toNat) (⟨y4.a,y4.b,wldT L (rawP L (rawP L t4.2)),y4.cb,y4.w⟩:Lnk)⟩:Tpl)) ⟨[(6,.k,.ref 3 0)],[.box (.agg [.sl 1 (L.map AV.int) false,.int (((rawP L (rawP L (rawP L t4.2))):Nat):Int)]),.vec 2 (t0.2.map Rtr.v) (pureBL_map (λ_=>rfl) t0.2),.vec 5 (((ordK t1.2.2 []).set ((Mod (rawV L (rawP L t4.2)) (((ordK t1.2.2 []).map Lnk.v).length:Int)).toNat) (⟨y4.a,y4.b,wldT L (rawP L (rawP L t4.2)),y4.cb,y4.w⟩:Lnk)).map Lnk.v) (pureBL_map (λ_=>rfl) ((ordK t1.2.2 []).set ((Mod (rawV L (rawP L t4.2)) (((ordK t1.2.2 []).map Lnk.v).length:Int)).toNat) (⟨y4.a,y4.b,wldT L (rawP L (rawP L t4.2)),y4.cb,y4.w⟩:Lnk))),.box (.agg [.vec 1,.vec 2])]⟩ [0,3,4,1])))))
(.retH ((⟨L,rawP L t4.2⟩:Tap),(⟨t0.2,ordK t1.2.2 []⟩:Tpl)) ⟨[(6,.k,.ref 3 0)],[.box (.agg [.sl 1 (L.map AV.int) false,.int (((rawP L t4.2):Nat):Int)]),.vec 2 (t0.2.map Rtr.v) (pureBL_map (λ_=>rfl) t0.2),.vec 5 ((ordK t1.2.2 []).map Lnk.v) (pureBL_map (λ_=>rfl) (ordK t1.2.2 [])),.box (.agg [.vec 1,.vec 2])]⟩ [0,3,4,1]))
(.br 165 ((Mod (rawV L t4.2) 7)==3) (.br 229 (decide (0<(((ordK t1.2.2 []).map Lnk.v).length:Int))) (.callH [0] (nxtM_h L (rawP L t4.2) (((ordK t1.2.2 []).map Lnk.v).length:Int)) 325
(.callH [0] (wldM_h L (rawP L (rawP L t4.2))) 357
(.say (ck (cond (decide (0≤(Mod (rawV L (rawP L t4.2)) (((ordK t1.2.2 []).map Lnk.v).length:Int)))) (decide ((Mod (rawV L (rawP L t4.2)) (((ordK t1.2.2 []).map Lnk.v).length:Int))<(((ordK t1.2.2 []).map Lnk.v).length:Int))) false)) (.st 405 Lnk.v (ordK t1.2.2 []) (λy5=>(⟨y5.a,y5.b,y5.ca,wldT L (rawP L (rawP L t4.2)),y5.w⟩:Lnk)) (λR=>Rf ((ordK t1.2.2 []).map Lnk.v) (ck (decide ((Mod (rawV L (rawP L t4.2)) (((ordK t1.2.2 []).map Lnk.v).length:Int)).toNat<(ordK t1.2.2 []).length))
(∀y5,(ordK t1.2.2 [])[(Mod (rawV L (rawP L t4.2)) (((ordK t1.2.2 []).map Lnk.v).length:Int)).toNat]?=some y5→Rf (Lnk.v (⟨y5.a,y5.b,y5.ca,wldT L (rawP L (rawP L t4.2)),y5.w⟩:Lnk))
((R y5))))) λy5 =>
(.retH ((⟨L,rawP L (rawP L (rawP L t4.2))⟩:Tap),(⟨t0.2,(ordK t1.2.2 []).set ((Mod (rawV L (rawP L t4.2)) (((ordK t1.2.2 []).map Lnk.v).length:Int)).toNat) (⟨y5.a,y5.b,y5.ca,wldT L (rawP L (rawP L t4.2)),y5.w⟩:Lnk)⟩:Tpl)) ⟨[(6,.k,.ref 3 0)],[.box (.agg [.sl 1 (L.map AV.int) false,.int (((rawP L (rawP L (rawP L t4.2))):Nat):Int)]),.vec 2 (t0.2.map Rtr.v) (pureBL_map (λ_=>rfl) t0.2),.vec 5 (((ordK t1.2.2 []).set ((Mod (rawV L (rawP L t4.2)) (((ordK t1.2.2 []).map Lnk.v).length:Int)).toNat) (⟨y5.a,y5.b,y5.ca,wldT L (rawP L (rawP L t4.2)),y5.w⟩:Lnk)).map Lnk.v) (pureBL_map (λ_=>rfl) ((ordK t1.2.2 []).set ((Mod (rawV L (rawP L t4.2)) (((ordK t1.2.2 []).map Lnk.v).length:Int)).toNat) (⟨y5.a,y5.b,y5.ca,wldT L (rawP L (rawP L t4.2)),y5.w⟩:Lnk))),.box (.agg [.vec 1,.vec 2])]⟩ [0,3,4,1])))))
(.retH ((⟨L,rawP L t4.2⟩:Tap),(⟨t0.2,ordK t1.2.2 []⟩:Tpl)) ⟨[(6,.k,.ref 3 0)],[.box (.agg [.sl 1 (L.map AV.int) false,.int (((rawP L t4.2):Nat):Int)]),.vec 2 (t0.2.map Rtr.v) (pureBL_map (λ_=>rfl) t0.2),.vec 5 ((ordK t1.2.2 []).map Lnk.v) (pureBL_map (λ_=>rfl) (ordK t1.2.2 [])),.box (.agg [.vec 1,.vec 2])]⟩ [0,3,4,1]))
(.br 197 ((Mod (rawV L t4.2) 7)==4) (.br 261 (decide (0<(((ordK t1.2.2 []).map Lnk.v).length:Int))) (.callH [0] (nxtM_h L (rawP L t4.2) (((ordK t1.2.2 []).map Lnk.v).length:Int)) 357
(.callH [0] (wldM_h L (rawP L (rawP L t4.2))) 389
(.say (ck (cond (decide (0≤(Mod (rawV L (rawP L t4.2)) (((ordK t1.2.2 []).map Lnk.v).length:Int)))) (decide ((Mod (rawV L (rawP L t4.2)) (((ordK t1.2.2 []).map Lnk.v).length:Int))<(((ordK t1.2.2 []).map Lnk.v).length:Int))) false)) (.st 437 Lnk.v (ordK t1.2.2 []) (λy6=>(⟨y6.a,y6.b,y6.ca,y6.cb,wldT L (rawP L (rawP L t4.2))⟩:Lnk)) (λR=>Rf ((ordK t1.2.2 []).map Lnk.v) (ck (decide ((Mod (rawV L (rawP L t4.2)) (((ordK t1.2.2 []).map Lnk.v).length:Int)).toNat<(ordK t1.2.2 []).length))
(∀y6,(ordK t1.2.2 [])[(Mod (rawV L (rawP L t4.2)) (((ordK t1.2.2 []).map Lnk.v).length:Int)).toNat]?=some y6→Rf (Lnk.v (⟨y6.a,y6.b,y6.ca,y6.cb,wldT L (rawP L (rawP L t4.2))⟩:Lnk))
((R y6))))) λy6 =>
(.retH ((⟨L,rawP L (rawP L (rawP L t4.2))⟩:Tap),(⟨t0.2,(ordK t1.2.2 []).set ((Mod (rawV L (rawP L t4.2)) (((ordK t1.2.2 []).map Lnk.v).length:Int)).toNat) (⟨y6.a,y6.b,y6.ca,y6.cb,wldT L (rawP L (rawP L t4.2))⟩:Lnk)⟩:Tpl)) ⟨[(6,.k,.ref 3 0)],[.box (.agg [.sl 1 (L.map AV.int) false,.int (((rawP L (rawP L (rawP L t4.2))):Nat):Int)]),.vec 2 (t0.2.map Rtr.v) (pureBL_map (λ_=>rfl) t0.2),.vec 5 (((ordK t1.2.2 []).set ((Mod (rawV L (rawP L t4.2)) (((ordK t1.2.2 []).map Lnk.v).length:Int)).toNat) (⟨y6.a,y6.b,y6.ca,y6.cb,wldT L (rawP L (rawP L t4.2))⟩:Lnk)).map Lnk.v) (pureBL_map (λ_=>rfl) ((ordK t1.2.2 []).set ((Mod (rawV L (rawP L t4.2)) (((ordK t1.2.2 []).map Lnk.v).length:Int)).toNat) (⟨y6.a,y6.b,y6.ca,y6.cb,wldT L (rawP L (rawP L t4.2))⟩:Lnk))),.box (.agg [.vec 1,.vec 2])]⟩ [0,3,4,1])))))
(.retH ((⟨L,rawP L t4.2⟩:Tap),(⟨t0.2,ordK t1.2.2 []⟩:Tpl)) ⟨[(6,.k,.ref 3 0)],[.box (.agg [.sl 1 (L.map AV.int) false,.int (((rawP L t4.2):Nat):Int)]),.vec 2 (t0.2.map Rtr.v) (pureBL_map (λ_=>rfl) t0.2),.vec 5 ((ordK t1.2.2 []).map Lnk.v) (pureBL_map (λ_=>rfl) (ordK t1.2.2 [])),.box (.agg [.vec 1,.vec 2])]⟩ [0,3,4,1]))
(.br 229 ((Mod (rawV L t4.2) 7)==5) (.br 293 (decide (0<(((ordK t1.2.2 []).map Lnk.v).length:Int))) (.callH [0] (nxtM_h L (rawP L t4.2) (((ordK t1.2.2 []).map Lnk.v).length:Int)) 421
(.say (ck (cond (decide (0≤(Mod (rawV L (rawP L t4.2)) (((ordK t1.2.2 []).map Lnk.v).length:Int)))) (decide ((Mod (rawV L (rawP L t4.2)) (((ordK t1.2.2 []).map Lnk.v).length:Int))<(((ordK t1.2.2 []).map Lnk.v).length:Int))) false)) (.el 453 Lnk.v (ordK t1.2.2 []) (λR=>Rf ((ordK t1.2.2 []).map Lnk.v) (ck (decide ((Mod (rawV L (rawP L t4.2)) (((ordK t1.2.2 []).map Lnk.v).length:Int)).toNat<(ordK t1.2.2 []).length))
(∀x7,(ordK t1.2.2 [])[(Mod (rawV L (rawP L t4.2)) (((ordK t1.2.2 []).map Lnk.v).length:Int)).toNat]?=some x7 →
(R x7)))) λx7 =>
(.say (λR=>Rf (α:=List AV) ((ordK t1.2.2 []).map Lnk.v) (Rf (α:=List AV) [.agg [.int x7.a,.int x7.b,.int x7.ca,.int x7.cb,.int x7.w]]
(ck (decide ((ordK t1.2.2 []).length+1≤1048576))
R))) (.app 485 Lnk.v (ordK t1.2.2 []) [x7]
(.retH ((⟨L,rawP L (rawP L t4.2)⟩:Tap),(⟨t0.2,(ordK t1.2.2 [])++[x7]⟩:Tpl)) ⟨[(6,.k,.ref 3 0)],[.box (.agg [.sl 1 (L.map AV.int) false,.int (((rawP L (rawP L t4.2)):Nat):Int)]),.vec 2 (t0.2.map Rtr.v) (pureBL_map (λ_=>rfl) t0.2),.vec 5 (((ordK t1.2.2 [])++[x7]).map Lnk.v) (pureBL_map (λ_=>rfl) ((ordK t1.2.2 [])++[x7])),.box (.agg [.vec 1,.vec 2])]⟩ [0,3,485,1]))))))
(.retH ((⟨L,rawP L t4.2⟩:Tap),(⟨t0.2,ordK t1.2.2 []⟩:Tpl)) ⟨[(6,.k,.ref 3 0)],[.box (.agg [.sl 1 (L.map AV.int) false,.int (((rawP L t4.2):Nat):Int)]),.vec 2 (t0.2.map Rtr.v) (pureBL_map (λ_=>rfl) t0.2),.vec 5 ((ordK t1.2.2 []).map Lnk.v) (pureBL_map (λ_=>rfl) (ordK t1.2.2 [])),.box (.agg [.vec 1,.vec 2])]⟩ [0,3,4,1]))
(.loop 5 (topM_n5 L t1 t4) (I5 t0 t1 t4) (m5 t0 t1 t4) (50,t0.2) [0,1,2,3,4] λ(t5:Int×(List Rtr)) b5 =>
(.br 37 (decide (t5.1<75)) (.say (λR=>Rf (α:=List AV) (t5.2.map Rtr.v) (Rf (α:=List AV) [.agg [.int t5.1,.bool false]]
(ck (decide (t5.2.length+1≤1048576))
R))) (.app 117 Rtr.v t5.2 [(⟨t5.1,false⟩:Rtr)]
(.bk 5 b5 (W (t5.1+1),t5.2++[(⟨t5.1,false⟩:Rtr)]) [0,1,2,117,4])))
(.retH ((⟨L,rawP L t4.2⟩:Tap),(⟨t5.2,ordK t1.2.2 []⟩:Tpl)) ⟨[(6,.k,.ref 3 0)],[.box (.agg [.sl 1 (L.map AV.int) false,.int (((rawP L t4.2):Nat):Int)]),.vec 2 (t5.2.map Rtr.v) (pureBL_map (λ_=>rfl) t5.2),.vec 5 ((ordK t1.2.2 []).map Lnk.v) (pureBL_map (λ_=>rfl) (ordK t1.2.2 [])),.box (.agg [.vec 1,.vec 2])]⟩ [0,3,4,1]))))))))))
(.retH ((⟨L,t4.2⟩:Tap),(⟨t0.2,ordK t1.2.2 []⟩:Tpl)) ⟨[(6,.k,.ref 3 0)],[.box (.agg [.sl 1 (L.map AV.int) false,.int ((t4.2:Nat):Int)]),.vec 2 (t0.2.map Rtr.v) (pureBL_map (λ_=>rfl) t0.2),.vec 5 ((ordK t1.2.2 []).map Lnk.v) (pureBL_map (λ_=>rfl) (ordK t1.2.2 [])),.box (.agg [.vec 1,.vec 2])]⟩ [0,3,4,1])))))))))))))))))
def topM_vc(L:(List Int))(p:Nat)(most:Int)(n:Int)(I0:(Int×(List Rtr))→Prop)(m0:(Int×(List Rtr))→Nat)(I1:Int×(List Rtr)→(Int×Nat×(List Lnk))→Prop)(m1:Int×(List Rtr)→(Int×Nat×(List Lnk))→Nat)(I2:Int×(List Rtr)→Int×Nat×(List Lnk)→(Int×(List Lnk)×Nat)→Prop)(m2:Int×(List Rtr)→Int×Nat×(List Lnk)→(Int×(List Lnk)×Nat)→Nat)(I3:Int×(List Rtr)→Int×Nat×(List Lnk)→Int×(List Lnk)×Nat→(Bool×Nat)→Prop)(I4:Int×(List Rtr)→Int×Nat×(List Lnk)→(Bool×Nat)→Prop)(I5:Int×(List Rtr)→Int×Nat×(List Lnk)→Bool×Nat→(Int×(List Rtr))→Prop)(m5:Int×(List Rtr)→Int×Nat×(List Lnk)→Bool×Nat→(Int×(List Rtr))→Nat)(r0:Tap×Tpl):Prop:=(topM_x L p most n I0 m0 I1 m1 I2 m2 I3 I4 I5 m5).vc topM_e topM_b r0
theorem topM_p(L:List Int)(p:Nat)(most n:Int)(h:1≤most∧most≤20)(ok:topM_a L p most n):∃I0 m0 I1 m1 I2 m2 I3 I4 I5 m5,topM_vc L p most n I0 m0 I1 m1 I2 m2 I3 I4 I5 m5 ((⟨L,(topM L p most n).2⟩:Tap),(topM L p most n).1):=by
 have hk:=rng_1 (L:=L) (p:=p) (m:=most) (by omega)
 refine⟨λs=>∃j:Nat,s.1=((j+1:Nat):Int)∧j≤(rng L p 1 most).toNat∧s.2=rtsM j,λs=>(rng L p 1 most).toNat+1-s.1.toNat,
  λ_ s=>∃j:Nat,s.1=((j+2:Nat):Int)∧j≤(rng L p 1 most-1).toNat∧s.2.2.length≤20 * j∧ouM L (cstM L p) ((rng L p 1 most-1).toNat-j) s.1 s.2.2 s.2.1=topO L p most,λ_ s=>(rng L p 1 most).toNat+1-s.1.toNat,
  λ_ s1 s=>∃j:Nat,s.1=((j+1:Nat):Int)∧j≤(s1.1-1).toNat∧s.2.1.length≤s1.2.2.length+j∧inM L (cstM L p) s1.1 (rng L s1.2.1 1 (W (s1.1-1))) (oneT L (rawP L s1.2.1) 9) ((s1.1-1).toNat-j) s.1 s.2.1 s.2.2=inR L (cstM L p) s1.1 s1.2.2 s1.2.1,λ_ s1 s=>s1.1.toNat-s.1.toNat,
  λ_ s1 s2 s=>s=cnM L s2.1 (rng L s1.2.1 1 (W (s1.1-1))) (oneT L (rawP L s1.2.1) 9) s2.2.2,
  λ_ s1 s=>s=(decide (0<n∧oneT L s1.2.1 n=true),if 0<n then rawP L s1.2.1 else s1.2.1),
  λ_ _ _ s=>∃j:Nat,s.1=((50+j:Nat):Int)∧j≤25∧s.2=rtsM (rng L p 1 most).toNat++farM j,λ_ _ _ s=>75-s.1.toNat,?_⟩
 dsimp only[topM_vc,topM_x,topM_s,Ax.vp,Ax.vc];simp only[vcU,rfU,List.length_map]
 generalize hK:rng L p 1 most=K at hk ⊢
 have hK0:topB L p most=⟨rtsM K.toNat,ordK (topO L p most).1 []⟩:=by unfold topB;rw[hK]
 refine⟨⟨0,rfl,Nat.zero_le _,rfl⟩,?_⟩
 rintro⟨i,rs⟩ ⟨j,hi,hj,hr⟩
 simp only at hi hr ⊢
 subst hi;subst hr
 rw[rtsM_len]
 refine⟨λc=>⟨by omega,⟨j+1,by rw[W_eq (by omega)];omega,by omega,(rtsM_succ j).symm⟩,by rw[W_eq (by omega)];omega⟩,λc=>⟨by simp,?_⟩⟩
 obtain rfl:j=K.toNat:=by omega
 refine⟨⟨0,rfl,Nat.zero_le _,by simp,by rw[topO,hK];rfl⟩,?_⟩
 rintro⟨b,q,ls⟩ ⟨jb,hb,hjb,hlb,hob⟩
 simp only at hb hlb hob ⊢
 refine⟨λc1=>?_,λc1=>?_⟩
 ·refine⟨⟨0,rfl,Nat.zero_le _,by simp,by rw[Nat.sub_zero];rfl⟩,?_⟩
  rintro⟨a,l2,p2⟩ ⟨ja,ha,hja,hla,hoa⟩
  simp only at ha hla hoa ⊢
  refine⟨λc2=>⟨⟨λe=>⟨λe2=>?_,λe2=>?_⟩,λe=>?_⟩,?_⟩,λc2=>?_⟩
  ·rw[cnM,if_pos ⟨e,by simpa using e2⟩]
  ·rw[cnM,if_neg (λq=>by rw[q.2]at e2;cases e2)]
  ·rw[cnM,if_neg (λq=>by rw[q.1]at e;cases e)]
  ·rintro _ rfl
   have hst:(b-1).toNat-ja=((b-1).toNat-(ja+1))+1:=by omega
   rw[hst,inM]at hoa
   have hw:W (a+1)=((ja+1+1:Nat):Int):=by rw[W_eq (by omega)];omega
   refine⟨λe=>?_,λe=>?_⟩
   ·rw[if_pos e]at hoa
    refine⟨by omega,⟨ja+1,hw,by omega,by simp;omega,?_⟩,by rw[hw];omega⟩
    rw[hw,show((ja+1+1:Nat):Int)=a+1 by omega]
    exact hoa
   ·rw[if_neg (by rw[e];simp)]at hoa
    refine⟨⟨ja+1,hw,by omega,by omega,?_⟩,by rw[hw];omega⟩
    rw[hw,show((ja+1+1:Nat):Int)=a+1 by omega]
    exact hoa
  ·have e1:(b-1).toNat-ja=0:=by omega
   rw[e1,inM]at hoa
   have e2:(K-1).toNat-jb=((K-1).toNat-(jb+1))+1:=by omega
   rw[e2,ouM,←hoa]at hob
   have hw:W (b+1)=((jb+1+2:Nat):Int):=by rw[W_eq (by omega)];omega
   refine⟨⟨jb+1,hw,by omega,by omega,?_⟩,by rw[hw];omega⟩
   rw[hw,show((jb+1+2:Nat):Int)=b+1 by omega]
   exact hob
 ·have e1:(K-1).toNat-jb=0:=by omega
  rw[e1,ouM]at hob
  have hT:topM L p most n=if 0<n∧oneT L q n=true then spoM L (rawP L q) ⟨rtsM K.toNat,ordK ls []⟩else(⟨rtsM K.toNat,ordK ls []⟩,if 0<n then rawP L q else q):=by
   unfold topM;rw[hK0,←hob]
  have hol:(ordK ls []).length≤400:=by rw[ordK_len];simp;omega
  generalize ordK ls []=ol at hT hol ⊢
  refine⟨by omega,⟨λc2=>?_,λc2=>?_⟩,?_⟩
  ·rw[if_pos c2]
   refine Prod.ext ?_ rfl
   rw[Bool.eq_iff_iff];simp[c2]
  ·rw[if_neg c2]
   refine Prod.ext ?_ rfl
   rw[Bool.eq_iff_iff];simp[c2]
  rintro _ rfl
  simp only
  refine⟨λe=>?_,λe=>by rw[hT,if_neg (of_decide_eq_false e)]⟩
  have e:=of_decide_eq_true e
  rw[hT,if_pos e,if_pos e.1]
  generalize rawP L q=q1
  have hix:∀{m:Nat},0<(m:Int)→(bif decide (0≤Mod (rawV L (rawP L q1)) m)then decide (Mod (rawV L (rawP L q1)) m<m)else false)=true∧(Mod (rawV L (rawP L q1)) m).toNat<m:=λ{m} hm=>by
   have:=Mod_range (x:=rawV L (rawP L q1)) (show 1≤(m:Int) by omega)
   exact⟨range2 this.1 this.2,by omega⟩
  have hno:¬0<(ol.length:Int)→∀i:Nat,ol[i]?=none:=λh i=>List.getElem?_eq_none (by omega)
  unfold spoM ixM
  simp only
  refine⟨λs0=>?_,λs0=>⟨λs1=>?_,λs1=>⟨λs2=>?_,λs2=>⟨λs3=>?_,λs3=>⟨λs4=>?_,λs4=>⟨λs5=>?_,λs5=>?_⟩⟩⟩⟩⟩⟩
  ·rw[if_pos (eq_of_beq s0)]
   exact⟨by simp,by omega,rfl⟩
  all_goals
   have s0:¬Mod (rawV L q1) 7=0:=by simpa using s0
   rw[if_neg s0]
  ·rw[if_pos (eq_of_beq s1)]
   exact⟨by omega,rfl⟩
  all_goals
   have s1:¬Mod (rawV L q1) 7=1:=by simpa using s1
   rw[if_neg s1]
  ·rw[if_pos (eq_of_beq s2)]
   exact⟨λh=>⟨(hix h).1,(hix h).2,λy hy=>by rw[hy]⟩,λh=>by rw[hno h]⟩
  all_goals
   have s2:¬Mod (rawV L q1) 7=2:=by simpa using s2
   rw[if_neg s2]
  ·rw[if_pos (eq_of_beq s3)]
   exact⟨λh=>⟨(hix h).1,(hix h).2,λy hy=>by rw[hy]⟩,λh=>by rw[hno h]⟩
  all_goals
   have s3:¬Mod (rawV L q1) 7=3:=by simpa using s3
   rw[if_neg s3]
  ·rw[if_pos (eq_of_beq s4)]
   exact⟨λh=>⟨(hix h).1,(hix h).2,λy hy=>by rw[hy]⟩,λh=>by rw[hno h]⟩
  all_goals
   have s4:¬Mod (rawV L q1) 7=4:=by simpa using s4
   rw[if_neg s4]
  ·rw[if_pos (eq_of_beq s5)]
   exact⟨λh=>⟨(hix h).1,(hix h).2,λy hy=>by rw[hy];exact⟨by omega,rfl⟩⟩,λh=>by rw[hno h]⟩
  have s5:¬Mod (rawV L q1) 7=5:=by simpa using s5
  rw[if_neg s5]
  refine⟨⟨0,rfl,by omega,by simp[farM]⟩,?_⟩
  rintro⟨i,rs⟩ ⟨j,hi,hj,hr⟩
  simp only at hi hr ⊢
  subst hi;subst hr
  refine⟨λf=>⟨by rw[List.length_append,rtsM_len,farM_len];omega,⟨j+1,by rw[W_eq (by omega)];omega,by omega,by rw[farM_succ,List.append_assoc]⟩,by rw[W_eq (by omega)];omega⟩,λf=>?_⟩
  obtain rfl:j=25:=by omega
  rfl
def topM_h(L:(List Int))(p:Nat)(most:Int)(n:Int)(h:1≤most∧most≤20):HC Tryz.prog:=⟨23,[.k,.k,.k],[.ref 0 0,.int most,.int n],[.box (.agg [.sl 1 (L.map AV.int) false,.int ((p:Nat):Int)])],topM_e ((⟨L,(topM L p most n).2⟩:Tap),(topM L p most n).1),topM_b ((⟨L,(topM L p most n).2⟩:Tap),(topM L p most n).1),HSpec.of_okh λok ok2=>have ok:topM_a L p most n:=⟨ok,ok2 _ (by simp)⟩;(topM_p L p most n h ok).elim λI0 h=>h.elim λm0 h=>h.elim λI1 h=>h.elim λm1 h=>h.elim λI2 h=>h.elim λm2 h=>h.elim λI3 h=>h.elim λI4 h=>h.elim λI5 h=>h.elim λm5 h=>mxH_of (sh:=.k) (enc:=topM_e) (hB:=topM_b) (a:=(topM_x L p most n I0 m0 I1 m1 I2 m2 I3 I4 I5 m5).an) h (by kernel_rfl),fnB_ok (by kernel_rfl),HcOk.of (by simp[hcB,belBL,AV.belB,allB,okBk,okBkO,topM_e,topM_b,pureBL_map (v:=AV.int) (λ_=>rfl),pureBL_map (v:=Lnk.v) (λ_=>rfl),pureBL_map (v:=Rtr.v) (λ_=>rfl)])⟩
def ring20:Tpl:=⟨[⟨1,true⟩,⟨2,true⟩,⟨3,true⟩,⟨4,true⟩],[⟨1,2,1,1,0⟩,⟨1,4,1,1,0⟩,⟨2,3,1,1,0⟩,⟨3,4,1,1,0⟩]⟩
def ring20_a:Prop:=okL []
def ring20_e(r:Tpl):AV:=Tpl.v r
def ring20_x:Ax Tryz.prog noS (Tpl):=
 (.ret ((⟨[(⟨1,true⟩:Rtr),(⟨2,true⟩:Rtr),(⟨3,true⟩:Rtr),(⟨4,true⟩:Rtr)],[(⟨1,2,1,1,0⟩:Lnk),(⟨1,4,1,1,0⟩:Lnk),(⟨2,3,1,1,0⟩:Lnk),(⟨3,4,1,1,0⟩:Lnk)]⟩:Tpl)))
def ring20_vc(r0:Tpl):Prop:=(ring20_x).vp ring20_e r0
theorem ring20_p(ok:ring20_a):ring20_vc ring20:=by
 dsimp only[ring20_vc,ring20_x,noS,Ax.vp,Ax.vc];simp only[vcU,rfU,List.length_map]
 rfl
def ring20_c:PC Tryz.prog:=⟨48,[],[],ring20_e ring20,PSpec.of_ok λok=>mxP_of (sh:=(.a [(.s 2),(.s 5)])) (enc:=ring20_e) (a:=(ring20_x).an) (ring20_p ok) (by kernel_rfl) (AV.pureB_ok rfl),fnB_ok (by kernel_rfl)⟩
def awk20_a:Prop:=okL []
def awk20_e(r:Bool):AV:=.bool r
def awk20_x:Ax Tryz.prog noS (Bool):=
 (.callP (ring20_c )
(.callP (dtoP_c ring20 (⟨0,8,[(⟨2,1⟩:Edg),(⟨3,2⟩:Edg)]⟩:Pln) 1 2 1)
(.callP (ring20_c )
(.callP (dtoP_c ring20 (⟨0,8,[(⟨2,1⟩:Edg),(⟨3,2⟩:Edg)]⟩:Pln) 1 2 2)
(.br 400 ((dtoT ring20 (⟨0,8,[(⟨2,1⟩:Edg),(⟨3,2⟩:Edg)]⟩:Pln) 1 2 1).2) (.br 448 ((dtoT ring20 (⟨0,8,[(⟨2,1⟩:Edg),(⟨3,2⟩:Edg)]⟩:Pln) 1 2 2).2) (.callP (intE_c ((dtoT ring20 (⟨0,8,[(⟨2,1⟩:Edg),(⟨3,2⟩:Edg)]⟩:Pln) 1 2 1).1) [4,3,2])
(.br 528 (decide (((dtoT ring20 (⟨0,8,[(⟨2,1⟩:Edg),(⟨3,2⟩:Edg)]⟩:Pln) 1 2 1).1)=[4,3,2])) (.callP (intE_c ((dtoT ring20 (⟨0,8,[(⟨2,1⟩:Edg),(⟨3,2⟩:Edg)]⟩:Pln) 1 2 2).1) [4])
(.ret (decide (((dtoT ring20 (⟨0,8,[(⟨2,1⟩:Edg),(⟨3,2⟩:Edg)]⟩:Pln) 1 2 2).1)=[4]))))
(.ret (false))))
(.ret (false)))
(.ret (false)))))))
def awk20_vc(r0:Bool):Prop:=(awk20_x).vp awk20_e r0
theorem awk20_p(ok:awk20_a):awk20_vc true:=by
 dsimp only[awk20_vc,awk20_x,noS,Ax.vp,Ax.vc];simp only[vcU,rfU,List.length_map]
 have h1:dtoT ring20 ⟨0,8,[⟨2,1⟩,⟨3,2⟩]⟩ 1 2 1=([4,3,2],true):=by kernel_rfl
 have h2:dtoT ring20 ⟨0,8,[⟨2,1⟩,⟨3,2⟩]⟩ 1 2 2=([4],true):=by kernel_rfl
 rw[h1,h2]
 simp
def awk20_c:PC Tryz.prog:=⟨15,[],[],awk20_e true,PSpec.of_ok λok=>mxP_of (sh:=.k) (enc:=awk20_e) (a:=(awk20_x).an) (awk20_p ok) (by kernel_rfl) (AV.pureB_ok rfl),fnB_ok (by kernel_rfl)⟩
end Go.Proofs.YteooglpnechplaaGreat
namespace Go.Proofs
open Go.Shelf
def Tryz.sortI_ren:Go.Shelf.Ren:=⟨fun|189=>113|125=>117|257=>118|128=>127|129=>128|294=>129|295=>130|296=>131|297=>132|298=>133|299=>134|216=>135|300=>136|301=>137|328=>143|329=>139|330=>140|331=>144|332=>145|215=>115|343=>147|n=>n,fun|28=>22|3=>3|46=>130|0=>0|51=>156|53=>158|4=>4|183=>150|182=>149|131=>67|5=>5|9=>9|218=>165|222=>169|228=>173|229=>174|n=>n,fun|n=>n⟩
theorem Tryz.sortI:Go.Proofs.Lays.n189 Tryz.prog Tryz.sortI_ren:={
 mixed:=by kernel_rfl
 f125:=Tryz.func117.trans (congrArg some (by kernel_rfl))
 f128:=Tryz.func127.trans (congrArg some (by kernel_rfl))
 f129:=Tryz.func128.trans (congrArg some (by kernel_rfl))
 f189:=Tryz.func113.trans (congrArg some (by kernel_rfl))
 f215:=Tryz.func115.trans (congrArg some (by kernel_rfl))
 f216:=Tryz.func135.trans (congrArg some (by kernel_rfl))
 f257:=Tryz.func118.trans (congrArg some (by kernel_rfl))
 f294:=Tryz.func129.trans (congrArg some (by kernel_rfl))
 f295:=Tryz.func130.trans (congrArg some (by kernel_rfl))
 f296:=Tryz.func131.trans (congrArg some (by kernel_rfl))
 f297:=Tryz.func132.trans (congrArg some (by kernel_rfl))
 f298:=Tryz.func133.trans (congrArg some (by kernel_rfl))
 f299:=Tryz.func134.trans (congrArg some (by kernel_rfl))
 f300:=Tryz.func136.trans (congrArg some (by kernel_rfl))
 f301:=Tryz.func137.trans (congrArg some (by kernel_rfl))
 f328:=Tryz.func143.trans (congrArg some (by kernel_rfl))
 f329:=Tryz.func139.trans (congrArg some (by kernel_rfl))
 f330:=Tryz.func140.trans (congrArg some (by kernel_rfl))
 f331:=Tryz.func144.trans (congrArg some (by kernel_rfl))
 f332:=Tryz.func145.trans (congrArg some (by kernel_rfl))
 f343:=Tryz.func147.trans (congrArg some (by kernel_rfl))
 t0:=Tryz.underlying0
 a0:=Tryz.isAgg0
 z0:=Tryz.sizeOf0
 v0:=Tryz.zeroValue0
 t3:=Tryz.underlying3
 a3:=Tryz.isAgg3
 z3:=Tryz.sizeOf3
 v3:=Tryz.zeroValue3
 t4:=Tryz.underlying4
 a4:=Tryz.isAgg4
 z4:=Tryz.sizeOf4
 v4:=Tryz.zeroValue4
 t5:=Tryz.underlying5
 a5:=Tryz.isAgg5
 z5:=Tryz.sizeOf5
 v5:=Tryz.zeroValue5
 t9:=Tryz.underlying9
 a9:=Tryz.isAgg9
 z9:=Tryz.sizeOf9
 v9:=Tryz.zeroValue9
 t28:=Tryz.underlying22
 a28:=Tryz.isAgg22
 z28:=Tryz.sizeOf22
 v28:=Tryz.zeroValue22
 t46:=Tryz.underlying130
 a46:=Tryz.isAgg130
 z46:=Tryz.sizeOf130
 v46:=Tryz.zeroValue130
 t51:=Tryz.underlying156
 a51:=Tryz.isAgg156
 z51:=Tryz.sizeOf156
 v51:=Tryz.zeroValue156
 t53:=Tryz.underlying158
 a53:=Tryz.isAgg158
 z53:=Tryz.sizeOf158
 v53:=Tryz.zeroValue158
 t131:=Tryz.underlying67
 a131:=Tryz.isAgg67
 z131:=Tryz.sizeOf67
 v131:=Tryz.zeroValue67
 t182:=Tryz.underlying149
 a182:=Tryz.isAgg149
 z182:=Tryz.sizeOf149
 v182:=Tryz.zeroValue149
 t183:=Tryz.underlying150
 a183:=Tryz.isAgg150
 z183:=Tryz.sizeOf150
 v183:=Tryz.zeroValue150
 t218:=Tryz.underlying165
 a218:=Tryz.isAgg165
 z218:=Tryz.sizeOf165
 v218:=Tryz.zeroValue165
 t222:=Tryz.underlying169
 a222:=Tryz.isAgg169
 z222:=Tryz.sizeOf169
 v222:=Tryz.zeroValue169
 t228:=Tryz.underlying173
 a228:=Tryz.isAgg173
 z228:=Tryz.sizeOf173
 v228:=Tryz.zeroValue173
 t229:=Tryz.underlying174
 a229:=Tryz.isAgg174
 z229:=Tryz.sizeOf174
 v229:=Tryz.zeroValue174 }
end Go.Proofs
namespace Go.Proofs.YteooglpnechplaaGreat
open Go Go.Am
theorem rvl_intsD{w:World}{A:Nat→Prop}{μ:Mu}:∀{l:List Int} {vs:List Value},RVL w A (l.map AV.int) μ vs→vs=l.map (Value.int .i64)∧∀x∈l,RV w A (.int x) μ (Value.int .i64 x)
 | [],vs,h=>⟨h,by simp⟩
 | x::l,_,⟨u,vs,rfl,h1,h2⟩=>by
  have h1':=h1
  obtain⟨rfl,_⟩:=h1
  obtain⟨e1,e2⟩:=rvl_intsD h2
  refine⟨by rw[e1];rfl,λy hy=>?_⟩
  rcases List.mem_cons.mp hy with rfl|hy
  ·exact h1'
  ·exact e2 y hy
theorem rvl_intsU{w:World}{A:Nat→Prop}{μ:Mu}:∀{l:List Int},(∀x∈l,RV w A (.int x) μ (Value.int .i64 x))→RVL w A (l.map AV.int) μ (l.map (Value.int .i64))
 | [],_=>rfl
 | x::l,h=>⟨_,_,rfl,h x (by simp),rvl_intsU λy hy=>h y (by simp[hy])⟩
def srtI(l:List Int):List Int:=l.mergeSort λx y=>decide (x≤y)
open Go.Shelf Go.RowKit Go.Lib Go.Sort Go.Proofs in
theorem sortI_hspec{P:Program}{ρ:Ren}(L:Lays.n189 P ρ)(l:List Int)(hl:l.length≤1000000):HSpec P (ρ.f 189) [.vec 0] [.vec 1 (l.map AV.int)] (.tup []) [some (.vec 1 ((srtI l).map AV.int))]:=by
 intro w A μ cargs hH hmu hargs
 obtain⟨c0,_,rfl,h0,rfl⟩:=hargs
 obtain⟨hd,hm,rfl⟩:=h0
 obtain⟨hd',hm',hb,hA⟩:=hH.blk 0 _ rfl
 rw[hm]at hm';cases hm'
 obtain⟨hk,hb⟩:=hb
 have none_:∀p cap,hd.val=.slice p 0 cap→l=[]→Calls P (ρ.f 189) [hd.val].toArray w λe w'=>∃v_1 A' μ',e=.returned v_1∧RV w' A' (.tup []) μ' v_1∧HeapOk P w' A' μ' (hpOf [some (.vec 1 ((srtI l).map AV.int))])∧MuLe μ μ'∧Ext (ownOf μ (hpOf ([Blk.vec 1 (l.map AV.int)].map some))) w w' ∧
   (∀b,A b→A' b)∧(∀b,A' b→A b∨ownOf μ (hpOf ([Blk.vec 1 (l.map AV.int)].map some)) b∨w.heap.size≤b) ∧
   (∀b,ownOf μ' (hpOf [some (.vec 1 ((srtI l).map AV.int))]) b→ownOf μ (hpOf ([Blk.vec 1 (l.map AV.int)].map some)) b∨w.heap.size≤b):=by
  intro p cap e0 e1
  subst e1
  rw[e0,show srtI []=[] by simp[srtI]]
  refine(Any.slices_Sort_int_none L p cap w).mono ?_
  rintro e w' ⟨rfl,rfl⟩
  exact⟨_,A,μ,rfl,⟨[],rfl,rfl⟩,hH,MuLe.refl _,⟨rfl,rfl,rfl,Nat.le_refl _,λ_ _ _=>rfl⟩,λb h=>h,λb h=>.inl h,λb h=>.inl h⟩
 rcases hb with⟨he,ha⟩|⟨he,hlen,hle,hcap,C,ty,vs,hheap,hrvl,hsol,hsz,hC,htake⟩
 ·obtain⟨a,ha⟩:=Option.isSome_iff_exists.mp ha
  exact none_ a 0 (by unfold Hd.val;rw[ha]) (by simpa using he)
 obtain⟨rfl,hel⟩:=rvl_intsD hrvl
 have hval:hd.val=.slice (some ⟨hd.blk,0,none⟩) hd.len hd.cap:=by unfold Hd.val;rw[he]
 have hlen':hd.len=l.length:=by rw[hlen];simp
 obtain⟨nA,hblk⟩:=hA he
 rw[hlen',Nat.mul_one]at htake
 have htake:C.toList.take l.length=l.map (Value.int .i64):=by rw[htake,List.flatMap_map,List.map_eq_flatMap];rfl
 have hH2:=holds_of_blockI hheap htake
 rw[hval,hlen']
 refine(Any.slices_Sort_int L hd.blk 0 hd.cap l w hH2 hblk (by omega)).mono ?_
 rintro e w' ⟨rfl,n,os,rfl⟩
 have hp1:=heap_sortedI (n:=n) (os:=os) (srtI l).toArray hheap
 obtain⟨_,_,_,hp3,hp2'⟩:=grownBy_sortedI (w:=w) (g:=hd.blk) (n:=n) (os:=os) (srtI l).toArray
 have hp2:∀k,k<w.heap.size→k≠hd.blk→(grow (putRow (Value.int .i64) (Sort.ahead w n) hd.blk 0 (srtI l).toArray) os).heap[k]?=w.heap[k]?:=λk h1 h2=>hp2' k h1 λe=>h2 (Option.some.inj e)
 have hll:(srtI l).length=l.length:=(List.mergeSort_perm _ _).length_eq
 have same:Same A w (grow (putRow (Value.int .i64) (Sort.ahead w n) hd.blk 0 (srtI l).toArray) os):=λb hb=>hp2 b (hH.lt b hb) (λe=>nA (e ▸ hb))
 have own:ownOf μ (hpOf ([Blk.vec 1 (l.map AV.int)].map some)) hd.blk:=⟨0,_,hd,rfl,hm,he,rfl⟩
 refine⟨_,A,μ,rfl,⟨[],rfl,rfl⟩,⟨λb x hx=>?_,λb b' x x' hd1 hd2 hx hx' _ _ _ _ _=>?_,hH.lt.mono same (λ_ h=>h) λb hb=>Nat.lt_of_lt_of_le (hH.lt b hb) hp3⟩,MuLe.refl _,
  ⟨rfl,rfl,rfl,hp3,λb h1 h2=>hp2 b h1 λe=>h2 (e ▸ own)⟩,λ_ h=>h,λ_ h=>.inl h,?_⟩
 ·have hx0:b=0:=by
   cases b with
   | zero=>rfl
   | succ b=>simp[hpOf]at hx
  subst hx0
  have hx:some (Blk.vec 1 ((srtI l).map AV.int))=some x:=hx
  cases hx
  refine⟨hd,hm,⟨hk,.inr ⟨he,?_,hle,hcap,_,ty,(srtI l).map (Value.int .i64),hp1,?_,?_,?_,?_,?_⟩⟩,λ_=>⟨nA,Nat.lt_of_lt_of_le hblk hp3⟩⟩
  ·rw[hlen',List.length_map,hll]
  ·exact RVL.mono same (λ_ h=>h) _ (MuLe.refl _) (rvl_intsU λx hx=>hel x ((List.mergeSort_perm _ _).mem_iff.mp hx))
  ·intro x hx
   obtain⟨y,_,rfl⟩:=List.mem_map.mp hx
   rfl
  ·intro u hu
   obtain⟨p,_,rfl⟩:=List.mem_map.mp hu
   rfl
  ·simpa[putCells]using hC
  ·have:=take_putCellsI C (srtI l) (by rw[hll];have:hd.cap * 1≤C.size:=hC;omega)
   rw[hlen',Nat.mul_one,←hll,this,List.flatMap_map,List.map_eq_flatMap];rfl
 ·have z:∀{b x},hpOf [some (Blk.vec 1 ((srtI l).map AV.int))] b=some x→b=0:=λ{b x} h=>by
   cases b with
   | zero=>rfl
   | succ b=>simp[hpOf]at h
  rw[z hx,z hx']
 ·rintro b ⟨b',x,hd1,hx,hm1,he1,rfl⟩
  have hx0:b'=0:=by
   cases b' with
   | zero=>rfl
   | succ b=>simp[hpOf]at hx
  subst hx0
  rw[hm]at hm1;cases hm1
  exact .inl own
theorem srtI_perm(l:List Int):(srtI l).Perm l:=List.mergeSort_perm _ _
theorem srtI_asc(l:List Int):(srtI l).Pairwise λa b=>a≤b:=by
 have h1:(srtI l).Pairwise λa b=>decide (a≤b)=true:=List.pairwise_mergeSort (λa b c h1 h2=>by simp at *;omega) (λa b=>by simp;omega) l
 exact h1.imp λh=>of_decide_eq_true h
theorem sortI_spec(l:List Int)(h:l.length≤1000000):HSpec Tryz.prog 113 [.vec 0] [.vec 1 (l.map AV.int)] (.tup []) [some (.vec 1 ((srtI l).map AV.int))]:=sortI_hspec Tryz.sortI l h
def sortI_h(l:List Int)(h:l.length≤1000000):HC Tryz.prog:=⟨113,[.k],[.vec 0],[.vec 1 (l.map AV.int)],.tup [],[some (.vec 1 ((srtI l).map AV.int))],sortI_spec l h,fnB_ok (by kernel_rfl),
 HcOk.of (by simp[hcB,belBL,AV.belB,allB,okBk,okBkO,pureBL_map (v:=AV.int) (λ_=>rfl)])⟩
def nei1(r:Int)(l:Lnk):List Int:=if r=l.a then [l.b]else if r=l.b then [l.a]else []
def neiL(ls:List Lnk)(r:Int):List Int:=ls.flatMap (nei1 r)
def neiP_a(t:Tpl)(router:Int):Prop:=okL [.agg [.sl 2 (t.rs.map Rtr.v) false,.sl 5 (t.ls.map Lnk.v) false],.int router]
def neiP_n0(t:Tpl)(router:Int)(t0:Int×(List Int)):NF:=⟨[(1,.k,.int router),(5,.k,.vec 0),(9,.k,.sl 5 (t.ls.map Lnk.v) false),(10,.k,.int ((t.ls.map Lnk.v).length:Int)),(11,.k,.int t0.1)],[.vec 1 (t0.2.map AV.int) (pureBL_map (λ_=>rfl) t0.2)]⟩
@[reducible] def neiP_s:Nat→Type
 | 0=>Int×(List Int)
 | _=>Unit
def neiP_e(r:(List Int)):AV:=.sl 1 (r.map AV.int) false
def neiP_x(t:Tpl)(router:Int)(I0:(Int×(List Int))→Prop)(m0:(Int×(List Int))→Nat):Ax Tryz.prog neiP_s ((List Int)):=
 (.cmdL (.nilT 5 1) (.loop 0 (neiP_n0 t router) I0 m0 (0,[]) [112] λ(t0:Int×(List Int)) b0 =>
(.br 17 (decide (t0.1<((t.ls.map Lnk.v).length:Int))) (.el 17 Lnk.v t.ls (λR=>Rf (t.ls.map Lnk.v) (ck (decide (0≤t0.1)) (ck (decide (t0.1<(t.ls.length:Int)))
(∀x1,t.ls[t0.1.toNat]?=some x1 →
(R x1))))) λx1 =>
(.br 161 (router==x1.a) (.say (λR=>Rf (α:=List AV) (t0.2.map AV.int) (Rf (α:=List AV) [.int x1.b]
(ck (decide (t0.2.length+1≤1048576))
R))) (.app 225 AV.int t0.2 [x1.b]
(.bk 0 b0 (W (t0.1+1),t0.2++[x1.b]) [225])))
(.br 225 (router==x1.b) (.say (λR=>Rf (α:=List AV) (t0.2.map AV.int) (Rf (α:=List AV) [.int x1.a]
(ck (decide (t0.2.length+1≤1048576))
R))) (.app 289 AV.int t0.2 [x1.a]
(.bk 0 b0 (W (t0.1+1),t0.2++[x1.a]) [289])))
(.bk 0 b0 (W (t0.1+1),t0.2) [0]))))
(.req 33 (t0.2.length≤1000000) λh2 =>
(.callH [0] (sortI_h t0.2 h2) 33
(.say (Rf ((srtI t0.2).map AV.int)) (.cmdL (.frzE 0 ((srtI t0.2).map AV.int) (pureBL_map (λ_=>rfl) (srtI t0.2))) (.ret (srtI t0.2)))))))))
def neiP_vc(t:Tpl)(router:Int)(I0:(Int×(List Int))→Prop)(m0:(Int×(List Int))→Nat)(r0:(List Int)):Prop:=(neiP_x t router I0 m0).vp neiP_e r0
theorem neiP_p(t:Tpl)(r:Int)(h:t.ls.length≤1000000)(ok:neiP_a t r):∃I0 m0,neiP_vc t r I0 m0 (srtI (neiL t.ls r)):=by
 refine⟨λs=>ForX t.ls (nei1 r) s.1 s.2,λs=>t.ls.length-s.1.toNat,?_⟩
 dsimp only[neiP_vc,neiP_x,neiP_s,Ax.vp,Ax.vc];simp only[vcU,rfU,List.length_map]
 refine⟨ForX.zero,?_⟩
 rintro⟨i,out⟩ hX
 simp only at hX ⊢
 have hlen:=hX.len (b:=1) λx _=>by unfold nei1;(repeat' split)<;>simp
 refine⟨λc=>⟨hX.idx,c,λx hx=>⟨λe=>⟨by omega,hX.step (by omega) hx (by unfold nei1;rw[if_pos (eq_of_beq e)])⟩,λe=>⟨λe2=>⟨by omega,hX.step (by omega) hx ?_⟩,λe2=>hX.step (by omega) hx ?_⟩⟩⟩,λc=>?_⟩
 ·unfold nei1;rw[if_neg (by simpa using e),if_pos (eq_of_beq e2)]
 ·unfold nei1;rw[if_neg (by simpa using e),if_neg (by simpa using e2)];simp
 ·rw[hX.done c]
  refine⟨?_,rfl⟩
  rw[hX.done c]at hlen;omega
def neiP_c(t:Tpl)(router:Int)(h:t.ls.length≤1000000):PC Tryz.prog:=⟨100,[(.a [(.s 2),(.s 5)]),.k],[.agg [.sl 2 (t.rs.map Rtr.v) false,.sl 5 (t.ls.map Lnk.v) false],.int router],neiP_e (srtI (neiL t.ls router)),PSpec.of_ok λok=>(neiP_p t router h ok).elim λI0 h=>h.elim λm0 h=>mxP_of (sh:=(.s 1)) (enc:=neiP_e) (a:=(neiP_x t router I0 m0).an) h (by kernel_rfl) (AV.pureB_ok rfl),fnB_ok (by kernel_rfl)⟩
theorem neiL_eq{t:Tpl}(hc:chk5 t=0)(r:Int):srtI (neiL t.ls r)=nea5 t r:=by
 have hO:=chk5_ok hc
 have hmem:∀q,q∈neiL t.ls r↔q∈nea5 t r:=λq=>by
  rw[nea_mem hc]
  have h1:q∈neiL t.ls r↔∃c,Edge t r q c:=by
   unfold neiL nei1 Edge
   rw[List.mem_flatMap]
   constructor
   ·rintro⟨l,hl,h⟩
    split at h
    ·rw[List.mem_singleton.mp h];exact⟨l.ca,l,hl,.inl ⟨by omega,rfl,rfl⟩⟩
    ·split at h
     ·rw[List.mem_singleton.mp h];exact⟨l.cb,l,hl,.inr ⟨by omega,rfl,rfl⟩⟩
     ·cases h
   ·rintro⟨c,l,hl,⟨h1,h2,h3⟩|⟨h1,h2,h3⟩⟩
    ·refine⟨l,hl,?_⟩
     rw[if_pos h1.symm,h2];simp
    ·have:=hO.lt l hl
     refine⟨l,hl,?_⟩
     rw[if_neg (by omega),if_pos h1.symm,h2];simp
  rw[h1]
  constructor
  ·rintro⟨c,e⟩;rw[(prc_edge hc).mp e]
  ·intro h;exact⟨(prc5 t r q).1,(prc_edge hc).mpr (Prod.ext rfl h)⟩
 have hnd:(neiL t.ls r).Nodup:=by
  unfold neiL
  rw[List.nodup_iff_pairwise_ne,List.pairwise_flatMap]
  refine⟨λl _=>by unfold nei1;(repeat' split)<;>simp,?_⟩
  refine List.Pairwise.imp_of_mem (λ{l1 l2} m1 m2 h x hx y hy e=>?_) hO.ord
  subst e
  have a1:=hO.lt l1 m1
  have a2:=hO.lt l2 m2
  unfold lnkL at h
  unfold nei1 at hx hy
  (repeat' split at hx)<;>(repeat' split at hy)<;>simp at hx hy<;>omega
 refine sorted_unique (key:=λx:Int=>x) ((srtI_perm _).trans ?_) (srtI_asc _) (nea_asc hc r)
 exact(List.perm_ext_iff_of_nodup hnd ((nea_asc hc r).imp λh e=>by subst e;omega)).mpr hmem
def neiQ_a(t:Tpl)(router:Int):Prop:=okL [.agg [.sl 2 (t.rs.map Rtr.v) false,.sl 5 (t.ls.map Lnk.v) false],.int router]
def neiQ_e(r:(List Int)):AV:=.sl 1 (r.map AV.int) false
def neiQ_x(t:Tpl)(router:Int):Ax Tryz.prog noS ((List Int)):=
 (.callP (valP_c t)
(.br 80 (!(valP t)) (.ret ([]))
(.req 112 (t.ls.length≤1000000) λh1 =>
(.callP (neiP_c t router h1)
(.ret (srtI (neiL t.ls router)))))))
def neiQ_vc(t:Tpl)(router:Int)(r0:(List Int)):Prop:=(neiQ_x t router).vp neiQ_e r0
theorem neiQ_p(t:Tpl)(r:Int)(ok:neiQ_a t r):neiQ_vc t r (nei5 t r):=by
 dsimp only[neiQ_vc,neiQ_x,noS,Ax.vp,Ax.vc];simp only[vcU,rfU,List.length_map]
 unfold nei5 valP
 by_cases hc:chk5 t=0
 ·rw[if_neg (by simpa using hc)]
  have:=(chk5_ok hc).nl
  exact⟨λh=>by simp[hc]at h,λ_=>⟨by omega,neiL_eq hc r⟩⟩
 ·rw[if_pos hc]
  exact⟨λ_=>rfl,λh=>by simp[hc]at h⟩
def neiQ_c(t:Tpl)(router:Int):PC Tryz.prog:=⟨58,[(.a [(.s 2),(.s 5)]),.k],[.agg [.sl 2 (t.rs.map Rtr.v) false,.sl 5 (t.ls.map Lnk.v) false],.int router],neiQ_e (nei5 t router),PSpec.of_ok λok=>mxP_of (sh:=(.s 1)) (enc:=neiQ_e) (a:=(neiQ_x t router).an) (neiQ_p t router ok) (by kernel_rfl) (AV.pureB_ok rfl),fnB_ok (by kernel_rfl)⟩
def dwn1(f:Flr)(r n:Int):Bool:=decide (n∈f.rs) || nmd f.ls r n
def dwnT(t:Tpl)(f:Flr)(r:Int):List Int:=(nei5 t r).filter (dwn1 f r)
theorem nei5_len(t:Tpl)(r:Int):(nei5 t r).length≤24:=by
 unfold nei5
 split
 ·simp
 ·rename_i h
  have hc:chk5 t=0:=by simpa using h
  have:=nea5_len (t:=t) (r:=r)
  have:=(chk5_ok hc).nr
  omega
def dwnP_a(t:Tpl)(f:Flr)(router:Int):Prop:=okL [.agg [.sl 2 (t.rs.map Rtr.v) false,.sl 5 (t.ls.map Lnk.v) false],.agg [.sl 2 (f.ls.map Hop.v) false,.sl 1 (f.rs.map AV.int) false],.int router]
def dwnP_n0(t:Tpl)(f:Flr)(router:Int)(t0:Int×(List Int)):NF:=⟨[(2,.k,.int router),(4,.k,.ref 0 0),(7,.k,.vec 1),(12,.k,.sl 1 ((nei5 t router).map AV.int) false),(13,.k,.int (((nei5 t router).map AV.int).length:Int)),(14,.k,.int t0.1)],[.box (.agg [.sl 2 (f.ls.map Hop.v) false,.sl 1 (f.rs.map AV.int) false]),.vec 1 (t0.2.map AV.int) (pureBL_map (λ_=>rfl) t0.2)]⟩
def dwnP_n1(t:Tpl)(f:Flr)(router:Int)(t0:Int×(List Int))(x1:Int)(t1:Bool):NF:=⟨[(2,.k,.int router),(4,.k,.ref 0 0),(7,.k,.vec 1),(9,.k,.int x1),(12,.k,.sl 1 ((nei5 t router).map AV.int) false),(13,.k,.int (((nei5 t router).map AV.int).length:Int)),(14,.k,.int t0.1),(27,.k,.bool t1)],[.box (.agg [.sl 2 (f.ls.map Hop.v) false,.sl 1 (f.rs.map AV.int) false]),.vec 1 (t0.2.map AV.int) (pureBL_map (λ_=>rfl) t0.2)]⟩
@[reducible] def dwnP_s:Nat→Type
 | 0=>Int×(List Int)
 | 1=>Bool
 | _=>Unit
def dwnP_e(r:(List Int)):AV:=.sl 1 (r.map AV.int) false
def dwnP_x(t:Tpl)(f:Flr)(router:Int)(I0:(Int×(List Int))→Prop)(m0:(Int×(List Int))→Nat)(I1:Int×(List Int)→Int→Bool→Prop):Ax Tryz.prog dwnP_s ((List Int)):=
 (.callP (neiQ_c t router)
(.cmdL (.nilT 7 1) (.loop 0 (dwnP_n0 t f router) I0 m0 (0,[]) [16,144] λ(t0:Int×(List Int)) b0 =>
(.br 18 (decide (t0.1<(((nei5 t router).map AV.int).length:Int))) (.el 18 AV.int (nei5 t router) (λR=>Rf ((nei5 t router).map AV.int) (ck (decide (0≤t0.1)) (ck (decide (t0.1<((nei5 t router).length:Int)))
(∀x1,(nei5 t router)[t0.1.toNat]?=some x1 →
(R x1))))) λx1 =>
(.join 1 (dwnP_n1 t f router t0 x1) (λ(t1:Bool)=>I1 t0 x1 t1) (λb1=>(.callP (contI_c f.rs x1)
(.br 146 (decide (x1∈f.rs)) (.bk 1 b1 ((true):Bool) [0,1])
(.callP (nmdP_c f router x1)
(.bk 1 b1 ((nmd f.ls router x1):Bool) [0,1]))))) λ(t1:Bool) =>
(.br 2 t1 (.say (λR=>Rf (α:=List AV) (t0.2.map AV.int) (Rf (α:=List AV) [.int x1]
(ck (decide (t0.2.length+1≤1048576))
R))) (.app 50 AV.int t0.2 [x1]
(.bk 0 b0 (W (t0.1+1),t0.2++[x1]) [0,50])))
(.bk 0 b0 (W (t0.1+1),t0.2) [0,1]))))
(.say (Rf (t0.2.map AV.int)) (.cmdL (.frzE 1 (t0.2.map AV.int) (pureBL_map (λ_=>rfl) t0.2)) (.ret (t0.2))))))))
def dwnP_vc(t:Tpl)(f:Flr)(router:Int)(I0:(Int×(List Int))→Prop)(m0:(Int×(List Int))→Nat)(I1:Int×(List Int)→Int→Bool→Prop)(r0:(List Int)):Prop:=(dwnP_x t f router I0 m0 I1).vp dwnP_e r0
theorem dwnP_p(t:Tpl)(f:Flr)(r:Int)(ok:dwnP_a t f r):∃I0 m0 I1,dwnP_vc t f r I0 m0 I1 (dwnT t f r):=by
 refine⟨λs=>ForF (nei5 t r) (dwn1 f r) s.1 s.2,λs=>(nei5 t r).length-s.1.toNat,λ_ n b=>b=dwn1 f r n,?_⟩
 dsimp only[dwnP_vc,dwnP_x,dwnP_s,Ax.vp,Ax.vc];simp only[vcU,rfU,List.length_map]
 have hl:=nei5_len t r
 refine⟨ForF.zero,?_⟩
 rintro⟨i,out⟩ hF
 simp only at hF ⊢
 refine⟨λc=>⟨hF.idx,c,λx hx=>⟨⟨λe=>by simp[dwn1,e],λe=>by simp[dwn1,e]⟩,?_⟩⟩,λc=>by rw[hF.done c];rfl⟩
 rintro _ rfl
 exact⟨λe=>⟨by have:=hF.len;omega,hF.keep (by omega) hx e⟩,λe=>hF.drop (by omega) hx e⟩
def dwnP_c(t:Tpl)(f:Flr)(router:Int):PC Tryz.prog:=⟨26,[(.a [(.s 2),(.s 5)]),(.a [(.s 2),(.s 1)]),.k],[.agg [.sl 2 (t.rs.map Rtr.v) false,.sl 5 (t.ls.map Lnk.v) false],.agg [.sl 2 (f.ls.map Hop.v) false,.sl 1 (f.rs.map AV.int) false],.int router],dwnP_e (dwnT t f router),PSpec.of_ok λok=>(dwnP_p t f router ok).elim λI0 h=>h.elim λm0 h=>h.elim λI1 h=>mxP_of (sh:=(.s 1)) (enc:=dwnP_e) (a:=(dwnP_x t f router I0 m0 I1).an) h (by kernel_rfl) (AV.pureB_ok rfl),fnB_ok (by kernel_rfl)⟩
def dwnR_a(t:Tpl)(f:Flr)(router:Int):Prop:=okL [.agg [.sl 2 (t.rs.map Rtr.v) false,.sl 5 (t.ls.map Lnk.v) false],.agg [.sl 2 (f.ls.map Hop.v) false,.sl 1 (f.rs.map AV.int) false],.int router]
def dwnR_n0(t:Tpl)(f:Flr)(router:Int)(t0:Int×(List Int)):NF:=⟨[(2,.k,.int router),(4,.k,.ref 0 0),(7,.k,.sl 1 ((nea5 t router).map AV.int) false),(8,.k,.vec 1),(9,.k,.int t0.1)],[.box (.agg [.sl 2 (f.ls.map Hop.v) false,.sl 1 (f.rs.map AV.int) false]),.vec 1 (t0.2.map AV.int) (pureBL_map (λ_=>rfl) t0.2)]⟩
def dwnR_n1(t:Tpl)(f:Flr)(router:Int)(t0:Int×(List Int))(t1:Bool):NF:=⟨[(2,.k,.int router),(4,.k,.ref 0 0),(7,.k,.sl 1 ((nea5 t router).map AV.int) false),(8,.k,.vec 1),(9,.k,.int t0.1),(38,.k,.bool t1)],[.box (.agg [.sl 2 (f.ls.map Hop.v) false,.sl 1 (f.rs.map AV.int) false]),.vec 1 (t0.2.map AV.int) (pureBL_map (λ_=>rfl) t0.2)]⟩
@[reducible] def dwnR_s:Nat→Type
 | 0=>Int×(List Int)
 | 1=>Bool
 | _=>Unit
def dwnR_e(r:(List Int)):AV:=.sl 1 (r.map AV.int) false
def dwnR_x(t:Tpl)(f:Flr)(router:Int)(I0:(Int×(List Int))→Prop)(m0:(Int×(List Int))→Nat)(I1:Int×(List Int)→Bool→Prop):Ax Tryz.prog dwnR_s ((List Int)):=
 (.callP (chk5_c t)
(.br 96 ((chk5 t) != 0) (.ret ([]))
(.req 128 (t.rs.length≤1000) λh1 =>
(.callP (nea5_c t router h1)
(.cmdL (.nilT 8 1) (.loop 0 (dwnR_n0 t f router) I0 m0 (0,[]) [16,192] λ(t0:Int×(List Int)) b0 =>
(.br 66 (decide (t0.1<(((nea5 t router).map AV.int).length:Int))) (.pass (.join 1 (dwnR_n1 t f router t0) (λ(t1:Bool)=>I1 t0 t1) (λb1=>(.el 130 AV.int (nea5 t router) (λR=>Rf ((nea5 t router).map AV.int) (ck (decide (0≤t0.1)) (ck (decide (t0.1<((nea5 t router).length:Int)))
(∀x2,(nea5 t router)[t0.1.toNat]?=some x2 →
(R x2))))) λx2 =>
(.callP (hasI_c f.rs x2)
(.br 194 (decide (x2∈f.rs)) (.bk 1 b1 ((true):Bool) [0,1])
(.el 274 AV.int (nea5 t router) (λR=>Rf ((nea5 t router).map AV.int) (ck (decide (0≤t0.1)) (ck (decide (t0.1<((nea5 t router).length:Int)))
(∀x3,(nea5 t router)[t0.1.toNat]?=some x3 →
(R x3))))) λx3 =>
(.callP (nmdR_c f.ls router x3)
(.bk 1 b1 ((nmd f.ls router x3):Bool) [0,1]))))))) λ(t1:Bool) =>
(.br 2 t1 (.el 50 AV.int (nea5 t router) (λR=>Rf ((nea5 t router).map AV.int) (ck (decide (0≤t0.1)) (ck (decide (t0.1<((nea5 t router).length:Int)))
(∀x4,(nea5 t router)[t0.1.toNat]?=some x4 →
(R x4))))) λx4 =>
(.say (λR=>Rf (α:=List AV) (t0.2.map AV.int) (Rf (α:=List AV) [.int x4]
(ck (decide (t0.2.length+1≤1048576))
R))) (.app 98 AV.int t0.2 [x4]
(.bk 0 b0 (W (t0.1+1),t0.2++[x4]) [0,98]))))
(.bk 0 b0 (W (t0.1+1),t0.2) [0,1]))))
(.say (Rf (t0.2.map AV.int)) (.cmdL (.frzE 1 (t0.2.map AV.int) (pureBL_map (λ_=>rfl) t0.2)) (.ret (t0.2)))))))))))
def dwnR_vc(t:Tpl)(f:Flr)(router:Int)(I0:(Int×(List Int))→Prop)(m0:(Int×(List Int))→Nat)(I1:Int×(List Int)→Bool→Prop)(r0:(List Int)):Prop:=(dwnR_x t f router I0 m0 I1).vp dwnR_e r0
theorem dwnR_p(t:Tpl)(f:Flr)(r:Int)(ok:dwnR_a t f r):∃I0 m0 I1,dwnR_vc t f r I0 m0 I1 (dwnT t f r):=by
 refine⟨λs=>ForF (nea5 t r) (dwn1 f r) s.1 s.2,λs=>(nea5 t r).length-s.1.toNat,λs b=>∀n,(nea5 t r)[s.1.toNat]?=some n→b=dwn1 f r n,?_⟩
 dsimp only[dwnR_vc,dwnR_x,dwnR_s,Ax.vp,Ax.vc];simp only[vcU,rfU,List.length_map]
 unfold dwnT nei5
 by_cases hc:chk5 t=0
 case neg=>exact⟨λ_=>by rw[if_pos hc];rfl,λh=>by simp[hc]at h⟩
 have hl:=nea5_len (t:=t) (r:=r)
 have hn:=(chk5_ok hc).nr
 rw[if_neg (by simpa using hc)]
 refine⟨λh=>by simp[hc]at h,λ_=>⟨by omega,ForF.zero,?_⟩⟩
 rintro⟨i,out⟩ hF
 simp only at hF ⊢
 refine⟨λc=>⟨⟨hF.idx,c,λx hx=>⟨λe n h=>?_,λe=>⟨hF.idx,c,λy hy n h=>?_⟩⟩⟩,λb hb=>?_⟩,λc=>hF.done c⟩
 ·rw[hx]at h;cases h;simp[dwn1,e]
 ·rw[hx]at h hy;cases h;cases hy;simp[dwn1,e]
 ·have hx:=List.getElem?_eq_getElem (show i.toNat<(nea5 t r).length by have:=hF.idx;omega)
  have hb:=hb _ hx
  subst hb
  refine⟨λe=>⟨hF.idx,c,λy hy=>?_⟩,λe=>hF.drop (by omega) hx e⟩
  rw[hx]at hy;cases hy
  exact⟨by have:=hF.len;omega,hF.keep (by omega) hx e⟩
def dwnR_c(t:Tpl)(f:Flr)(router:Int):PC Tryz.prog:=⟨27,[(.a [(.s 2),(.s 5)]),(.a [(.s 2),(.s 1)]),.k],[.agg [.sl 2 (t.rs.map Rtr.v) false,.sl 5 (t.ls.map Lnk.v) false],.agg [.sl 2 (f.ls.map Hop.v) false,.sl 1 (f.rs.map AV.int) false],.int router],dwnR_e (dwnT t f router),PSpec.of_ok λok=>(dwnR_p t f router ok).elim λI0 h=>h.elim λm0 h=>h.elim λI1 h=>mxP_of (sh:=(.s 1)) (enc:=dwnR_e) (a:=(dwnR_x t f router I0 m0 I1).an) h (by kernel_rfl) (AV.pureB_ok rfl),fnB_ok (by kernel_rfl)⟩
def fndT(t:Tpl)(r:Int):Rtr×Bool:=if hitR t.rs r=true then(t.rs.getD (posR t.rs r) ⟨0,false⟩,true)else(⟨0,false⟩,false)
def fndR_a(t:Tpl)(router:Int):Prop:=okL [.agg [.sl 2 (t.rs.map Rtr.v) false,.sl 5 (t.ls.map Lnk.v) false],.int router]
def fndR_e(r:Rtr×Bool):AV:=.tup [Rtr.v r.1,.bool r.2]
def fndR_x(t:Tpl)(router:Int):Ax Tryz.prog noS (Rtr×Bool):=
 (.req 96 (t.rs.length≤1000000) λh1 =>
(.callP (bsR_c t.rs router h1)
(.br 224 (!(hitR t.rs router)) (.ret ((⟨0,false⟩:Rtr),false))
(.el 272 Rtr.v t.rs (λR=>Rf (t.rs.map Rtr.v) (ck (decide (0≤(posR t.rs router:Int))) (ck (decide ((posR t.rs router:Int)<(t.rs.length:Int)))
(∀x2,t.rs[(posR t.rs router:Int).toNat]?=some x2 →
(R x2))))) λx2 =>
(.ret (x2,true))))))
def fndR_vc(t:Tpl)(router:Int)(r0:Rtr×Bool):Prop:=(fndR_x t router).vp fndR_e r0
theorem fndR_p(t:Tpl)(r:Int)(h:t.rs.length≤1000000)(ok:fndR_a t r):fndR_vc t r (fndT t r):=by
 dsimp only[fndR_vc,fndR_x,noS,Ax.vp,Ax.vc];simp only[vcU,rfU,List.length_map]
 unfold fndT
 refine⟨h,λc=>by rw[if_neg (by simpa using c)],λc=>?_⟩
 have c:hitR t.rs r=true:=by simpa using c
 have hp:posR t.rs r<t.rs.length:=by
  refine Classical.byContradiction λq=>?_
  unfold hitR bsH at c
  rw[List.getElem?_eq_none (by unfold posR at q;omega)]at c;cases c
 refine⟨by omega,by omega,λx hx=>?_⟩
 rw[Int.toNat_natCast]at hx
 rw[if_pos c,List.getD_eq_getElem?_getD,hx];rfl
def fndR_c(t:Tpl)(router:Int)(h:t.rs.length≤1000000):PC Tryz.prog:=⟨102,[(.a [(.s 2),(.s 5)]),.k],[.agg [.sl 2 (t.rs.map Rtr.v) false,.sl 5 (t.ls.map Lnk.v) false],.int router],fndR_e (fndT t router),PSpec.of_ok λok=>mxP_of (sh:=.k) (enc:=fndR_e) (a:=(fndR_x t router).an) (fndR_p t router h ok) (by kernel_rfl) (AV.pureB_ok rfl),fnB_ok (by kernel_rfl)⟩
def hasP_a(t:Tpl)(router:Int):Prop:=okL [.agg [.sl 2 (t.rs.map Rtr.v) false,.sl 5 (t.ls.map Lnk.v) false],.int router]
def hasP_e(r:Bool):AV:=.bool r
def hasP_x(t:Tpl)(router:Int):Ax Tryz.prog noS (Bool):=
 (.req 64 (t.rs.length≤1000000) λh1 =>
(.callP (fndR_c t router h1)
(.callP (valP_c t)
(.br 224 (valP t) (.ret ((fndT t router).2))
(.ret (false))))))
def hasP_vc(t:Tpl)(router:Int)(r0:Bool):Prop:=(hasP_x t router).vp hasP_e r0
theorem hasP_p(t:Tpl)(r:Int)(h:t.rs.length≤1000000)(ok:hasP_a t r):hasP_vc t r (hs5 t r):=by
 dsimp only[hasP_vc,hasP_x,noS,Ax.vp,Ax.vc];simp only[vcU,rfU,List.length_map]
 refine⟨h,λc=>?_,λc=>?_⟩
 ·have hc:chk5 t=0:=by unfold valP at c;exact eq_of_beq c
  have e:(fndT t r).2=hitR t.rs r:=by
   unfold fndT;split
   ·rename_i q;rw[q]
   ·rename_i q;simpa using q
  rw[e,(hitR_any (chk5_ok hc).asc r).1]
  unfold hs5 has5;rw[hc];rfl
 ·unfold valP at c;unfold hs5;rw[c];rfl
def hasP_c(t:Tpl)(router:Int)(h:t.rs.length≤1000000):PC Tryz.prog:=⟨61,[(.a [(.s 2),(.s 5)]),.k],[.agg [.sl 2 (t.rs.map Rtr.v) false,.sl 5 (t.ls.map Lnk.v) false],.int router],hasP_e (hs5 t router),PSpec.of_ok λok=>mxP_of (sh:=.k) (enc:=hasP_e) (a:=(hasP_x t router).an) (hasP_p t router h ok) (by kernel_rfl) (AV.pureB_ok rfl),fnB_ok (by kernel_rfl)⟩
def sglT(t:Tpl)(f:Flr):Bool:=(chk5 t==0) && (match f.rs,f.ls with
 | [x],[]=>has5 t x
 | [],[h]=>(prc5 t h.a h.b).2
 | _,_=>false)
theorem W_one{n:Nat}(h:n≤18446744073709551614):(W (n:Int) != 1)=decide (n≠1):=by
 rw[Bool.eq_iff_iff,decide_eq_true_iff,bne_iff_ne]
 by_cases e:n≤9223372036854775807
 ·rw[W_eq (by omega)];omega
 ·have:W (n:Int)<0:=by
   simp[W,IntKind.wrap,IntKind.signed,IntKind.bits];omega
  omega
def sglP_a(t:Tpl)(f:Flr):Prop:=okL [.agg [.sl 2 (t.rs.map Rtr.v) false,.sl 5 (t.ls.map Lnk.v) false],.agg [.sl 2 (f.ls.map Hop.v) false,.sl 1 (f.rs.map AV.int) false]]
def sglP_n0(t:Tpl)(f:Flr)(t0:Bool):NF:=⟨[(2,.k,.ref 0 0),(3,.k,.ref 1 0),(19,.k,.bool t0)],[.box (.agg [.sl 2 (t.rs.map Rtr.v) false,.sl 5 (t.ls.map Lnk.v) false]),.box (.agg [.sl 2 (f.ls.map Hop.v) false,.sl 1 (f.rs.map AV.int) false])]⟩
@[reducible] def sglP_s:Nat→Type
 | 0=>Bool
 | _=>Unit
def sglP_e(r:Bool):AV:=.bool r
def sglP_x(t:Tpl)(f:Flr)(I0:Bool→Prop):Ax Tryz.prog sglP_s (Bool):=
 (.pass (.pass (.join 0 (sglP_n0 t f) (λ(t0:Bool)=>I0 t0) (λb0=>(.callP (chkP_c t)
(.br 112 ((chk5 t) != 0) (.bk 0 b0 ((true):Bool) [0,16])
(.bk 0 b0 (((W (((f.ls.map Hop.v).length:Int)+((f.rs.map AV.int).length:Int))) != 1):Bool) [0,16])))) λ(t0:Bool) =>
(.br 2 t0 (.ret (false))
(.br 66 (((f.rs.map AV.int).length:Int)==1) (.el 114 AV.int f.rs (λR=>Rf (f.rs.map AV.int) (ck (decide (0<(f.rs.length:Int)))
(∀x1,f.rs[0]?=some x1 →
(R x1)))) λx1 =>
(.req 146 (t.rs.length≤1000000) λh2 =>
(.callP (hasP_c t x1 h2)
(.ret (hs5 t x1)))))
(.el 114 Hop.v f.ls (λR=>Rf (f.ls.map Hop.v) (ck (decide (0<(f.ls.length:Int)))
(∀x3,f.ls[0]?=some x3 →
(R x3)))) λx3 =>
(.el 194 Hop.v f.ls (λR=>Rf (f.ls.map Hop.v) (ck (decide (0<(f.ls.length:Int)))
(∀x4,f.ls[0]?=some x4 →
(R x4)))) λx4 =>
(.callP (cosP_c t x3.a x4.b)
(.ret ((cos5 t x3.a x4.b).2))))))))))
def sglP_vc(t:Tpl)(f:Flr)(I0:Bool→Prop)(r0:Bool):Prop:=(sglP_x t f I0).vp sglP_e r0
theorem sglP_p(t:Tpl)(f:Flr)(ok:sglP_a t f):∃I0,sglP_vc t f I0 (sglT t f):=by
  refine⟨λb=>b=(decide (chk5 t≠0) || decide (f.ls.length+f.rs.length≠1)),?_⟩
  simp only[sglP_a,okU,Blk.ok,plainV,List.length_map]at ok
  dsimp only[sglP_vc,sglP_x,sglP_s,Ax.vp,Ax.vc];simp only[vcU,rfU,List.length_map]
  have hW:=W_one (n:=f.ls.length+f.rs.length) (by omega)
  rw[Int.natCast_add]at hW
  refine⟨⟨λc=>by simp at c;simp[c],λc=>by rw[hW];simp at c;simp[c]⟩,?_⟩
  rintro _ rfl
  refine⟨λc=>?_,λc=>?_⟩
  · unfold sglT
    simp only[Bool.or_eq_true,decide_eq_true_eq]at c
    rcases c with c|c
    · rw[beq_eq_false_iff_ne.mpr c];rfl
    · match hr:f.rs,hl:f.ls with
      | [x],[]=>rw[hr,hl]at c;simp at c
      | [],[h]=>rw[hr,hl]at c;simp at c
      | [],[]=>simp
      | x::y::r,l=>simp
      | [x],h::l=>simp
      | [],h::k::l=>simp
  · simp only[Bool.or_eq_false_iff,decide_eq_false_iff_not,Classical.not_not]at c
    obtain⟨hc,hn⟩:=c
    refine⟨λe=>?_,λe=>?_⟩
    · have e:f.rs.length=1:=by have:=eq_of_beq e;omega
      refine⟨by omega,λx hx=>⟨by have:=(chk5_ok hc).nr;omega,?_⟩⟩
      match hr:f.rs,hl:f.ls with
      | [y],[]=>rw[hr]at hx;cases hx;unfold sglT hs5;rw[hr,hl]
      | [y],h::l=>rw[hr,hl]at hn;simp at hn
      | [],l=>rw[hr]at e;simp at e
      | y::z::r,l=>rw[hr]at e;simp at e
    · have e : ¬ f.rs.length = 1 := by have : ¬ ((f.rs.length : Int) = 1) := by simpa using e
                                       omega
      refine⟨by omega,λx hx=>⟨by omega,λy hy=>?_⟩⟩
      rw[hx]at hy;cases hy
      match hr:f.rs,hl:f.ls with
      | [],[h]=>rw[hl]at hx;cases hx;unfold sglT cos5;rw[hr,hl,hc];simp
      | [],[]=>rw[hr,hl]at hn;simp at hn
      | [],h::k::l=>rw[hr,hl]at hn;simp at hn
      | z::r,l=>rw[hr]at e hn;simp only[List.length_cons]at e hn;omega
def sglP_c(t:Tpl)(f:Flr):PC Tryz.prog:=⟨28,[(.a [(.s 2),(.s 5)]),(.a [(.s 2),(.s 1)])],[.agg [.sl 2 (t.rs.map Rtr.v) false,.sl 5 (t.ls.map Lnk.v) false],.agg [.sl 2 (f.ls.map Hop.v) false,.sl 1 (f.rs.map AV.int) false]],sglP_e (sglT t f),PSpec.of_ok λok=>(sglP_p t f ok).elim λI0 h=>mxP_of (sh:=.k) (enc:=sglP_e) (a:=(sglP_x t f I0).an) h (by kernel_rfl) (AV.pureB_ok rfl),fnB_ok (by kernel_rfl)⟩
def sglR_a(t:Tpl)(f:Flr):Prop:=okL [.agg [.sl 2 (t.rs.map Rtr.v) false,.sl 5 (t.ls.map Lnk.v) false],.agg [.sl 2 (f.ls.map Hop.v) false,.sl 1 (f.rs.map AV.int) false]]
def sglR_n0(t:Tpl)(f:Flr)(t0:Bool):NF:=⟨[(2,.k,.ref 0 0),(3,.k,.ref 1 0),(19,.k,.bool t0)],[.box (.agg [.sl 2 (t.rs.map Rtr.v) false,.sl 5 (t.ls.map Lnk.v) false]),.box (.agg [.sl 2 (f.ls.map Hop.v) false,.sl 1 (f.rs.map AV.int) false])]⟩
def sglR_n1(t:Tpl)(f:Flr)(t1:Bool):NF:=⟨[(2,.k,.ref 0 0),(3,.k,.ref 1 0),(35,.k,.bool t1)],[.box (.agg [.sl 2 (t.rs.map Rtr.v) false,.sl 5 (t.ls.map Lnk.v) false]),.box (.agg [.sl 2 (f.ls.map Hop.v) false,.sl 1 (f.rs.map AV.int) false])]⟩
@[reducible] def sglR_s:Nat→Type
 | 0=>Bool
 | 1=>Bool
 | _=>Unit
def sglR_e(r:Bool):AV:=.bool r
def sglR_x(t:Tpl)(f:Flr)(I0:Bool→Prop)(I1:Bool→Bool→Prop):Ax Tryz.prog sglR_s (Bool):=
 (.callP (chk5_c t)
(.br 96 ((chk5 t) != 0) (.ret (false))
(.pass (.join 0 (sglR_n0 t f) (λ(t0:Bool)=>I0 t0) (λb0=>(.br 176 (((f.rs.map AV.int).length:Int)==1) (.bk 0 b0 ((((f.ls.map Hop.v).length:Int)==0):Bool) [0,16])
(.bk 0 b0 ((false):Bool) [0,16]))) λ(t0:Bool) =>
(.br 2 t0 (.el 50 AV.int f.rs (λR=>Rf (f.rs.map AV.int) (ck (decide (0<(f.rs.length:Int)))
(∀x1,f.rs[0]?=some x1 →
(R x1)))) λx1 =>
(.callP (hs5_c t x1)
(.ret (hs5 t x1))))
(.pass (.join 1 (sglR_n1 t f) (λ(t1:Bool)=>I1 t0 t1) (λb1=>(.br 82 (((f.rs.map AV.int).length:Int) != 0) (.bk 1 b1 ((true):Bool) [0,1])
(.bk 1 b1 ((((f.ls.map Hop.v).length:Int) != 1):Bool) [0,1]))) λ(t1:Bool) =>
(.br 2 t1 (.ret (false))
(.el 50 Hop.v f.ls (λR=>Rf (f.ls.map Hop.v) (ck (decide (0<(f.ls.length:Int)))
(∀x2,f.ls[0]?=some x2 →
(R x2)))) λx2 =>
(.el 130 Hop.v f.ls (λR=>Rf (f.ls.map Hop.v) (ck (decide (0<(f.ls.length:Int)))
(∀x3,f.ls[0]?=some x3 →
(R x3)))) λx3 =>
(.callP (prc5_c t x2.a x3.b)
(.ret ((prc5 t x2.a x3.b).2)))))))))))))
def sglR_vc(t:Tpl)(f:Flr)(I0:Bool→Prop)(I1:Bool→Bool→Prop)(r0:Bool):Prop:=(sglR_x t f I0 I1).vp sglR_e r0
theorem sglR_p(t:Tpl)(f:Flr)(ok:sglR_a t f):∃I0 I1,sglR_vc t f I0 I1 (sglT t f):=by
 refine⟨λb=>b=(decide (f.rs.length=1) && decide (f.ls.length=0)),λ_ b=>b=(decide (f.rs.length≠0) || decide (f.ls.length≠1)),?_⟩
 simp only[sglR_a,okU,Blk.ok,plainV,List.length_map]at ok
 dsimp only[sglR_vc,sglR_x,sglR_s,Ax.vp,Ax.vc];simp only[vcU,rfU,List.length_map]
 by_cases hc:chk5 t=0
 case neg=>exact⟨λ_=>by unfold sglT;rw[beq_eq_false_iff_ne.mpr hc];rfl,λh=>by simp[hc]at h⟩
 refine⟨λh=>by simp[hc]at h,λ_=>⟨⟨λe=>?_,λe=>?_⟩,?_⟩⟩
 ·have e:f.rs.length=1:=by have:=eq_of_beq e;omega
  rw[decide_eq_true e,Bool.true_and,Bool.eq_iff_iff,decide_eq_true_iff,beq_iff_eq];omega
 ·have e:¬f.rs.length=1:=λq=>by rw[q]at e;simp at e
  rw[decide_eq_false e];rfl
 rintro _ rfl
 refine⟨λe=>?_,λe=>⟨⟨λe2=>?_,λe2=>?_⟩,?_⟩⟩
 ·simp only[Bool.and_eq_true,decide_eq_true_eq]at e
  refine⟨by omega,λx hx=>?_⟩
  match hr:f.rs,hl:f.ls with
  | [y],[]=>rw[hr]at hx;cases hx;unfold sglT hs5;rw[hr,hl]
  | [y],h::l=>rw[hl]at e;simp at e
  | [],l=>rw[hr]at e;simp at e
  | y::z::r,l=>rw[hr]at e;simp at e
 ·have e2:f.rs.length≠0:=λq=>by rw[q]at e2;simp at e2
  rw[decide_eq_true e2];rfl
 ·have e2:f.rs.length=0:=by
   have:(f.rs.length:Int)=0:=by simpa using e2
   omega
  rw[decide_eq_false (by omega:¬f.rs.length≠0),Bool.false_or,Bool.eq_iff_iff,decide_eq_true_iff,bne_iff_ne];omega
 rintro _ rfl
 refine⟨λe2=>?_,λe2=>?_⟩
 ·unfold sglT
  match hr:f.rs,hl:f.ls with
  | [x],[]=>rw[hr,hl]at e;simp at e
  | [],[h]=>rw[hr,hl]at e2;simp at e2
  | [],[]=>simp
  | x::y::r,l=>simp
  | [x],h::l=>simp
  | [],h::k::l=>simp
 ·simp only[Bool.or_eq_false_iff,decide_eq_false_iff_not,Classical.not_not]at e2
  refine⟨by omega,λx hx=>⟨by omega,λy hy=>?_⟩⟩
  rw[hx]at hy;cases hy
  match hr:f.rs,hl:f.ls with
  | [],[h]=>rw[hl]at hx;cases hx;unfold sglT;rw[hr,hl,hc];simp
  | [],[]=>rw[hl]at e2;simp at e2
  | [],h::k::l=>rw[hl]at e2;simp at e2
  | z::r,l=>rw[hr]at e2;simp at e2
def sglR_c(t:Tpl)(f:Flr):PC Tryz.prog:=⟨29,[(.a [(.s 2),(.s 5)]),(.a [(.s 2),(.s 1)])],[.agg [.sl 2 (t.rs.map Rtr.v) false,.sl 5 (t.ls.map Lnk.v) false],.agg [.sl 2 (f.ls.map Hop.v) false,.sl 1 (f.rs.map AV.int) false]],sglR_e (sglT t f),PSpec.of_ok λok=>(sglR_p t f ok).elim λI0 h=>h.elim λI1 h=>mxP_of (sh:=.k) (enc:=sglR_e) (a:=(sglR_x t f I0 I1).an) h (by kernel_rfl) (AV.pureB_ok rfl),fnB_ok (by kernel_rfl)⟩
def faR(L:List Int)(p:Nat)(g:Tpl):Flr×Nat:=match g.rs[(Mod (rawV L p) g.rs.length).toNat]? with
 | some r=>(⟨[],[r.id]⟩,rawP L p)
 | none=>(⟨[],[]⟩,p)
def faL(L:List Int)(p:Nat)(g:Tpl):Flr×Nat:=match g.ls[(Mod (rawV L p) g.ls.length).toNat]? with
 | some l=>(if Mod (rawV L (rawP L p)) 2=0 then⟨[⟨l.b,l.a⟩],[]⟩else⟨[⟨l.a,l.b⟩],[]⟩,rawP L (rawP L p))
 | none=>(⟨[],[]⟩,p)
def faiM(L:List Int)(p:Nat)(g:Tpl):Flr×Nat:=if 0<g.ls.length then(if 0<Mod (rawV L p) 3 then faL L (rawP L p) g else faR L (rawP L p) g)else faR L p g
def faiM_a(L:(List Int))(p:Nat)(g:Tpl):Prop:=okL [.ref 0 0,.agg [.sl 2 (g.rs.map Rtr.v) false,.sl 5 (g.ls.map Lnk.v) false]]∧(.box (.agg [.sl 1 (L.map AV.int) false,.int ((p:Nat):Int)]):Blk).ok
def faiM_n0(L:(List Int))(g:Tpl)(t0:Bool×Nat):NF:=⟨[(0,.k,.ref 0 0),(3,.k,.ref 1 0),(4,.k,.ref 2 0),(14,.k,.bool t0.1)],[.box (.agg [.sl 1 (L.map AV.int) false,.int ((t0.2:Nat):Int)]),.box (.agg [.sl 2 (g.rs.map Rtr.v) false,.sl 5 (g.ls.map Lnk.v) false]),.box (.agg [.sl 0 [] true,.sl 0 [] true])]⟩
@[reducible] def faiM_s:Nat→Type
 | 0=>Bool×Nat
 | _=>Unit
def faiM_e(r:Tap×Flr):AV:=.agg [.vec 1,.vec 2]
def faiM_b(r:Tap×Flr):List (Option Blk):=[some (.box (.agg [.sl 1 (r.1.L.map AV.int) false,.int ((r.1.p:Nat):Int)])),some (.vec 2 (r.2.ls.map Hop.v)),some (.vec 1 (r.2.rs.map AV.int))]
def faiM_x(L:(List Int))(p:Nat)(g:Tpl)(I0:(Bool×Nat)→Prop):Ax Tryz.prog faiM_s (Tap×Flr):=
 (.pass (.pass (.join 0 (faiM_n0 L g) (λ(t0:Bool×Nat)=>I0 t0) (λb0=>(.br 113 (decide (0<((g.ls.map Lnk.v).length:Int))) (.callH [0] (nxtM_h L p 3) 129
(.bk 0 b0 (decide (0<(Mod (rawV L p) 3)),rawP L p) [0,1,17]))
(.bk 0 b0 (false,p) [0,1,17]))) λ(t0:Bool×Nat) =>
(.br 3 t0.1 (.callH [0] (nxtM_h L t0.2 ((g.ls.map Lnk.v).length:Int)) 99
(.el 115 Lnk.v g.ls (λR=>Rf (g.ls.map Lnk.v) (ck (decide (0≤(Mod (rawV L t0.2) ((g.ls.map Lnk.v).length:Int)))) (ck (decide ((Mod (rawV L t0.2) ((g.ls.map Lnk.v).length:Int))<(g.ls.length:Int)))
(∀x1,g.ls[(Mod (rawV L t0.2) ((g.ls.map Lnk.v).length:Int)).toNat]?=some x1 →
(R x1))))) λx1 =>
(.callH [0] (nxtM_h L (rawP L t0.2) 2) 195
(.br 227 ((Mod (rawV L (rawP L t0.2)) 2)==0) (.own 307 (.cmdL (.nilB 2 1 1) (.retH ((⟨L,rawP L (rawP L t0.2)⟩:Tap),(⟨[(⟨x1.b,x1.a⟩:Hop)],[]⟩:Flr)) ⟨[(4,.k,.ref 3 0)],[.box (.agg [.sl 1 (L.map AV.int) false,.int (((rawP L (rawP L t0.2)):Nat):Int)]),.vec 2 [.agg [.int x1.b,.int x1.a]] rfl,.vec 1 [] rfl,.box (.agg [.vec 1,.vec 2])]⟩ [0,307,355,2])))
(.own 307 (.cmdL (.nilB 2 1 1) (.retH ((⟨L,rawP L (rawP L t0.2)⟩:Tap),(⟨[(⟨x1.a,x1.b⟩:Hop)],[]⟩:Flr)) ⟨[(4,.k,.ref 3 0)],[.box (.agg [.sl 1 (L.map AV.int) false,.int (((rawP L (rawP L t0.2)):Nat):Int)]),.vec 2 [.agg [.int x1.a,.int x1.b]] rfl,.vec 1 [] rfl,.box (.agg [.vec 1,.vec 2])]⟩ [0,307,355,2])))))))
(.br 67 (((g.rs.map Rtr.v).length:Int)==0) (.cmdL (.nilB 2 0 2) (.cmdL (.nilB 2 1 1) (.retH ((⟨L,t0.2⟩:Tap),(⟨[],[]⟩:Flr)) ⟨[(4,.k,.ref 3 0)],[.box (.agg [.sl 1 (L.map AV.int) false,.int ((t0.2:Nat):Int)]),.vec 2 [] rfl,.vec 1 [] rfl,.box (.agg [.vec 1,.vec 2])]⟩ [0,99,100,2])))
(.callH [0] (nxtM_h L t0.2 ((g.rs.map Rtr.v).length:Int)) 163
(.el 179 Rtr.v g.rs (λR=>Rf (g.rs.map Rtr.v) (ck (decide (0≤(Mod (rawV L t0.2) ((g.rs.map Rtr.v).length:Int)))) (ck (decide ((Mod (rawV L t0.2) ((g.rs.map Rtr.v).length:Int))<(g.rs.length:Int)))
(∀x2,g.rs[(Mod (rawV L t0.2) ((g.rs.map Rtr.v).length:Int)).toNat]?=some x2 →
(R x2))))) λx2 =>
(.own 227 (.cmdL (.nilB 2 0 2) (.retH ((⟨L,rawP L t0.2⟩:Tap),(⟨[],[x2.id]⟩:Flr)) ⟨[(4,.k,.ref 3 0)],[.box (.agg [.sl 1 (L.map AV.int) false,.int (((rawP L t0.2):Nat):Int)]),.vec 2 [] rfl,.vec 1 [.int x2.id] rfl,.box (.agg [.vec 1,.vec 2])]⟩ [0,275,227,2]))))))))))
def faiM_vc(L:(List Int))(p:Nat)(g:Tpl)(I0:(Bool×Nat)→Prop)(r0:Tap×Flr):Prop:=(faiM_x L p g I0).vc faiM_e faiM_b r0
theorem faiM_p(L:List Int)(p:Nat)(g:Tpl)(ok:faiM_a L p g):∃I0,faiM_vc L p g I0 ((⟨L,(faiM L p g).2⟩:Tap),(faiM L p g).1):=by
 refine⟨λs=>s=(decide (0<g.ls.length∧0<Mod (rawV L p) 3),if 0<g.ls.length then rawP L p else p),?_⟩
 dsimp only[faiM_vc,faiM_x,faiM_s,Ax.vp,Ax.vc];simp only[vcU,rfU,List.length_map]
 refine⟨⟨λc=>?_,λc=>?_⟩,?_⟩
 ·rw[if_pos (by omega)]
  refine Prod.ext ?_ rfl
  rw[Bool.eq_iff_iff];simp;omega
 ·rw[if_neg (by omega)]
  refine Prod.ext ?_ rfl
  rw[Bool.eq_iff_iff];simp;omega
 rintro _ rfl
 simp only
 refine⟨λc=>?_,λc=>?_⟩
 ·have c:=of_decide_eq_true c
  have hm:=Mod_range (x:=rawV L (rawP L p)) (show 1≤(g.ls.length:Int) by omega)
  rw[if_pos c.1]
  refine⟨hm.1,hm.2,λx hx=>?_⟩
  unfold faiM faL
  rw[if_pos c.1,if_pos c.2,hx]
  refine⟨λe=>?_,λe=>?_⟩
  ·simp only;rw[if_pos (eq_of_beq e)]
  ·simp only;rw[if_neg (by simpa using e)]
 ·have c:=of_decide_eq_false c
  have e:faiM L p g=faR L (if 0<g.ls.length then rawP L p else p) g:=by
   unfold faiM
   by_cases h:0<g.ls.length
   ·rw[if_pos h,if_pos h,if_neg (λq=>c ⟨h,q⟩)]
   ·rw[if_neg h,if_neg h]
  rw[e]
  generalize (if 0<g.ls.length then rawP L p else p)=q
  unfold faR
  refine⟨λh=>?_,λh=>?_⟩
  ·have h:g.rs.length=0:=by have:=eq_of_beq h;omega
   rw[List.getElem?_eq_none (by omega)]
  ·have h:¬(g.rs.length:Int)=0:=by simpa using h
   have hm:=Mod_range (x:=rawV L q) (show 1≤(g.rs.length:Int) by omega)
   exact⟨hm.1,hm.2,λx hx=>by rw[hx]⟩
def faiM_h(L:(List Int))(p:Nat)(g:Tpl):HC Tryz.prog:=⟨24,[.k,(.a [(.s 2),(.s 5)])],[.ref 0 0,.agg [.sl 2 (g.rs.map Rtr.v) false,.sl 5 (g.ls.map Lnk.v) false]],[.box (.agg [.sl 1 (L.map AV.int) false,.int ((p:Nat):Int)])],faiM_e ((⟨L,(faiM L p g).2⟩:Tap),(faiM L p g).1),faiM_b ((⟨L,(faiM L p g).2⟩:Tap),(faiM L p g).1),HSpec.of_okh λok ok2=>have ok:faiM_a L p g:=⟨ok,ok2 _ (by simp)⟩;(faiM_p L p g ok).elim λI0 h=>mxH_of (sh:=.k) (enc:=faiM_e) (hB:=faiM_b) (a:=(faiM_x L p g I0).an) h (by kernel_rfl),fnB_ok (by kernel_rfl),HcOk.of (by simp[hcB,belBL,AV.belB,allB,okBk,okBkO,faiM_e,faiM_b,pureBL_map (v:=AV.int) (λ_=>rfl),pureBL_map (v:=Hop.v) (λ_=>rfl),pureBL_map (v:=Lnk.v) (λ_=>rfl),pureBL_map (v:=Rtr.v) (λ_=>rfl)])⟩
def faiV_a(L:(List Int))(p:Nat)(g:Tpl):Prop:=okL [.ref 0 0,.agg [.sl 2 (g.rs.map Rtr.v) false,.sl 5 (g.ls.map Lnk.v) false]]∧(.box (.agg [.sl 1 (L.map AV.int) false,.int ((p:Nat):Int)]):Blk).ok
def faiV_n0(L:(List Int))(g:Tpl)(t0:Bool×Nat):NF:=⟨[(0,.k,.ref 0 0),(3,.k,.ref 1 0),(4,.k,.ref 2 0),(14,.k,.bool t0.1)],[.box (.agg [.sl 1 (L.map AV.int) false,.int ((t0.2:Nat):Int)]),.box (.agg [.sl 2 (g.rs.map Rtr.v) false,.sl 5 (g.ls.map Lnk.v) false]),.box (.agg [.sl 0 [] true,.sl 0 [] true])]⟩
@[reducible] def faiV_s:Nat→Type
 | 0=>Bool×Nat
 | _=>Unit
def faiV_e(r:Tap×Flr):AV:=.agg [.sl 2 (r.2.ls.map Hop.v) false,.sl 1 (r.2.rs.map AV.int) false]
def faiV_b(r:Tap×Flr):List (Option Blk):=[some (.box (.agg [.sl 1 (r.1.L.map AV.int) false,.int ((r.1.p:Nat):Int)]))]
def faiV_x(L:(List Int))(p:Nat)(g:Tpl)(I0:(Bool×Nat)→Prop):Ax Tryz.prog faiV_s (Tap×Flr):=
 (.pass (.pass (.join 0 (faiV_n0 L g) (λ(t0:Bool×Nat)=>I0 t0) (λb0=>(.br 113 (decide (0<((g.ls.map Lnk.v).length:Int))) (.callH [0] (nxtM_h L p 3) 129
(.bk 0 b0 (decide (0<(Mod (rawV L p) 3)),rawP L p) [0,1,17]))
(.bk 0 b0 (false,p) [0,1,17]))) λ(t0:Bool×Nat) =>
(.br 3 t0.1 (.callH [0] (nxtM_h L t0.2 ((g.ls.map Lnk.v).length:Int)) 99
(.el 115 Lnk.v g.ls (λR=>Rf (g.ls.map Lnk.v) (ck (decide (0≤(Mod (rawV L t0.2) ((g.ls.map Lnk.v).length:Int)))) (ck (decide ((Mod (rawV L t0.2) ((g.ls.map Lnk.v).length:Int))<(g.ls.length:Int)))
(∀x1,g.ls[(Mod (rawV L t0.2) ((g.ls.map Lnk.v).length:Int)).toNat]?=some x1 →
(R x1))))) λx1 =>
(.callH [0] (nxtM_h L (rawP L t0.2) 2) 195
(.br 227 ((Mod (rawV L (rawP L t0.2)) 2)==0) (.retH ((⟨L,rawP L (rawP L t0.2)⟩:Tap),(⟨[(⟨x1.b,x1.a⟩:Hop)],[]⟩:Flr)) ⟨[(4,.k,.ref 1 0)],[.box (.agg [.sl 1 (L.map AV.int) false,.int (((rawP L (rawP L t0.2)):Nat):Int)]),.box (.agg [.sl 2 [.agg [.int x1.b,.int x1.a]] true,.sl 0 [] true])]⟩ [0,2])
(.retH ((⟨L,rawP L (rawP L t0.2)⟩:Tap),(⟨[(⟨x1.a,x1.b⟩:Hop)],[]⟩:Flr)) ⟨[(4,.k,.ref 1 0)],[.box (.agg [.sl 1 (L.map AV.int) false,.int (((rawP L (rawP L t0.2)):Nat):Int)]),.box (.agg [.sl 2 [.agg [.int x1.a,.int x1.b]] true,.sl 0 [] true])]⟩ [0,2])))))
(.br 67 (((g.rs.map Rtr.v).length:Int)==0) (.retH ((⟨L,t0.2⟩:Tap),(⟨[],[]⟩:Flr)) ⟨[(4,.k,.ref 1 0)],[.box (.agg [.sl 1 (L.map AV.int) false,.int ((t0.2:Nat):Int)]),.box (.agg [.sl 0 [] true,.sl 0 [] true])]⟩ [0,2])
(.callH [0] (nxtM_h L t0.2 ((g.rs.map Rtr.v).length:Int)) 163
(.el 179 Rtr.v g.rs (λR=>Rf (g.rs.map Rtr.v) (ck (decide (0≤(Mod (rawV L t0.2) ((g.rs.map Rtr.v).length:Int)))) (ck (decide ((Mod (rawV L t0.2) ((g.rs.map Rtr.v).length:Int))<(g.rs.length:Int)))
(∀x2,g.rs[(Mod (rawV L t0.2) ((g.rs.map Rtr.v).length:Int)).toNat]?=some x2 →
(R x2))))) λx2 =>
(.retH ((⟨L,rawP L t0.2⟩:Tap),(⟨[],[x2.id]⟩:Flr)) ⟨[(4,.k,.ref 1 0)],[.box (.agg [.sl 1 (L.map AV.int) false,.int (((rawP L t0.2):Nat):Int)]),.box (.agg [.sl 0 [] true,.sl 1 [.int x2.id] true])]⟩ [0,2]))))))))
def faiV_vc(L:(List Int))(p:Nat)(g:Tpl)(I0:(Bool×Nat)→Prop)(r0:Tap×Flr):Prop:=(faiV_x L p g I0).vc faiV_e faiV_b r0
theorem faiV_p(L:List Int)(p:Nat)(g:Tpl)(ok:faiV_a L p g):∃I0,faiV_vc L p g I0 ((⟨L,(faiM L p g).2⟩:Tap),(faiM L p g).1):=by
 refine⟨λs=>s=(decide (0<g.ls.length∧0<Mod (rawV L p) 3),if 0<g.ls.length then rawP L p else p),?_⟩
 dsimp only[faiV_vc,faiV_x,faiV_s,Ax.vp,Ax.vc];simp only[vcU,rfU,List.length_map]
 refine⟨⟨λc=>?_,λc=>?_⟩,?_⟩
 ·rw[if_pos (by omega)]
  refine Prod.ext ?_ rfl
  rw[Bool.eq_iff_iff];simp;omega
 ·rw[if_neg (by omega)]
  refine Prod.ext ?_ rfl
  rw[Bool.eq_iff_iff];simp;omega
 rintro _ rfl
 simp only
 refine⟨λc=>?_,λc=>?_⟩
 ·have c:=of_decide_eq_true c
  have hm:=Mod_range (x:=rawV L (rawP L p)) (show 1≤(g.ls.length:Int) by omega)
  rw[if_pos c.1]
  refine⟨hm.1,hm.2,λx hx=>?_⟩
  unfold faiM faL
  rw[if_pos c.1,if_pos c.2,hx]
  refine⟨λe=>?_,λe=>?_⟩
  ·simp only;rw[if_pos (eq_of_beq e)]
  ·simp only;rw[if_neg (by simpa using e)]
 ·have c:=of_decide_eq_false c
  have e:faiM L p g=faR L (if 0<g.ls.length then rawP L p else p) g:=by
   unfold faiM
   by_cases h:0<g.ls.length
   ·rw[if_pos h,if_pos h,if_neg (λq=>c ⟨h,q⟩)]
   ·rw[if_neg h,if_neg h]
  rw[e]
  generalize (if 0<g.ls.length then rawP L p else p)=q
  unfold faR
  refine⟨λh=>?_,λh=>?_⟩
  ·have h:g.rs.length=0:=by have:=eq_of_beq h;omega
   rw[List.getElem?_eq_none (by omega)]
  ·have h:¬(g.rs.length:Int)=0:=by simpa using h
   have hm:=Mod_range (x:=rawV L q) (show 1≤(g.rs.length:Int) by omega)
   exact⟨hm.1,hm.2,λx hx=>by rw[hx]⟩
def faiV_h(L:(List Int))(p:Nat)(g:Tpl):HC Tryz.prog:=⟨24,[.k,(.a [(.s 2),(.s 5)])],[.ref 0 0,.agg [.sl 2 (g.rs.map Rtr.v) false,.sl 5 (g.ls.map Lnk.v) false]],[.box (.agg [.sl 1 (L.map AV.int) false,.int ((p:Nat):Int)])],faiV_e ((⟨L,(faiM L p g).2⟩:Tap),(faiM L p g).1),faiV_b ((⟨L,(faiM L p g).2⟩:Tap),(faiM L p g).1),HSpec.of_okh λok ok2=>have ok:faiV_a L p g:=⟨ok,ok2 _ (by simp)⟩;(faiV_p L p g ok).elim λI0 h=>mxH_of (sh:=(.a [(.s 2),(.s 1)])) (enc:=faiV_e) (hB:=faiV_b) (a:=(faiV_x L p g I0).an) h (by kernel_rfl),fnB_ok (by kernel_rfl),HcOk.of (by simp[hcB,belBL,AV.belB,allB,okBk,okBkO,faiV_e,faiV_b,pureBL_map (v:=AV.int) (λ_=>rfl),pureBL_map (v:=Lnk.v) (λ_=>rfl),pureBL_map (v:=Rtr.v) (λ_=>rfl)])⟩
def fasL(L:List Int)(g:Tpl):Nat→Flr→Nat→Flr×Nat
 | 0,f,p=>(f,p)
 | k+1,f,p=>fasL L g k ⟨f.ls++(faiM L p g).1.ls,f.rs++(faiM L p g).1.rs⟩ (faiM L p g).2
def fasB(L:List Int)(p:Nat)(g:Tpl):Flr×Nat:=fasL L g (Mod (rawV L (faiM L p g).2) 3).toNat (faiM L p g).1 (rawP L (faiM L p g).2)
def fasM(L:List Int)(p:Nat)(g:Tpl):Flr×Nat:=
 if oneT L (fasB L p g).2 6=true then
  (⟨(fasB L p g).1.ls++[⟨Mod (rawV L (rawP L (fasB L p g).2)) 9,Mod (rawV L (rawP L (rawP L (fasB L p g).2))) 9⟩],(fasB L p g).1.rs++[pickI [0,77,-1] (rawV L (rawP L (rawP L (rawP L (fasB L p g).2))))]⟩,rawP L (rawP L (rawP L (rawP L (fasB L p g).2))))
 else((fasB L p g).1,rawP L (fasB L p g).2)
def fasM_a(L:(List Int))(p:Nat)(g:Tpl):Prop:=okL [.ref 0 0,.agg [.sl 2 (g.rs.map Rtr.v) false,.sl 5 (g.ls.map Lnk.v) false]]∧(.box (.agg [.sl 1 (L.map AV.int) false,.int ((p:Nat):Int)]):Blk).ok
def fasM_n0(L:(List Int))(g:Tpl)(t0:Int×(List Int)×(List Hop)×Nat):NF:=⟨[(0,.k,.ref 0 0),(3,.k,.ref 1 0),(4,.k,.ref 2 0),(5,.k,.ref 3 0),(6,.k,.int t0.1)],[.box (.agg [.sl 1 (L.map AV.int) false,.int ((t0.2.2.2:Nat):Int)]),.box (.agg [.sl 2 (g.rs.map Rtr.v) false,.sl 5 (g.ls.map Lnk.v) false]),.box (.agg [.sl 0 [] true,.sl 0 [] true]),.box (.agg [.vec 4,.vec 5]),.vec 2 (t0.2.2.1.map Hop.v) (pureBL_map (λ_=>rfl) t0.2.2.1),.vec 1 (t0.2.1.map AV.int) (pureBL_map (λ_=>rfl) t0.2.1)]⟩
@[reducible] def fasM_s:Nat→Type
 | 0=>Int×(List Int)×(List Hop)×Nat
 | _=>Unit
def fasM_e(r:Tap×Flr):AV:=.agg [.sl 2 (r.2.ls.map Hop.v) false,.sl 1 (r.2.rs.map AV.int) false]
def fasM_b(r:Tap×Flr):List (Option Blk):=[some (.box (.agg [.sl 1 (r.1.L.map AV.int) false,.int ((r.1.p:Nat):Int)]))]
def fasM_x(L:(List Int))(p:Nat)(g:Tpl)(I0:(Int×(List Int)×(List Hop)×Nat)→Prop)(m0:(Int×(List Int)×(List Hop)×Nat)→Nat):Ax Tryz.prog fasM_s (Tap×Flr):=
 (.callH [0] (faiM_h L p g) 65
(.callH [0] (nxtM_h L ((faiM L p g).2) 3) 129
(.loop 0 (fasM_n0 L g) I0 m0 (Mod (rawV L ((faiM L p g).2)) 3,((faiM L p g).1).rs,((faiM L p g).1).ls,rawP L ((faiM L p g).2)) [0,1,17,81,65,66] λ(t0:Int×(List Int)×(List Hop)×Nat) b0 =>
(.br 38 (decide (0<t0.1)) (.callH [0] (faiM_h L t0.2.2.2 g) 70
(.say (λR=>Rf (α:=List AV) (t0.2.2.1.map Hop.v) (Rf (α:=List AV) ((((faiM L t0.2.2.2 g).1).ls).map Hop.v)
(ck (decide (t0.2.2.1.length+(((faiM L t0.2.2.2 g).1).ls).length≤1048576))
R))) (.app 182 Hop.v t0.2.2.1 (((faiM L t0.2.2.2 g).1).ls)
(.say (λR=>Rf (α:=List AV) (t0.2.1.map AV.int) (Rf (α:=List AV) ((((faiM L t0.2.2.2 g).1).rs).map AV.int)
(ck (decide (t0.2.1.length+(((faiM L t0.2.2.2 g).1).rs).length≤1048576))
R))) (.app 262 AV.int t0.2.1 (((faiM L t0.2.2.2 g).1).rs)
(.bk 0 b0 (W (t0.1-1),t0.2.1++((faiM L t0.2.2.2 g).1).rs,t0.2.2.1++((faiM L t0.2.2.2 g).1).ls,(faiM L t0.2.2.2 g).2) [0,1,2,3,182,262]))))))
(.callH [0] (oneM_h L t0.2.2.2 6) 54
(.br 70 (oneT L t0.2.2.2 6) (.callH [0] (nxtM_h L (rawP L t0.2.2.2) 9) 118
(.callH [0] (nxtM_h L (rawP L (rawP L t0.2.2.2)) 9) 150
(.say (λR=>Rf (α:=List AV) (t0.2.2.1.map Hop.v) (Rf (α:=List AV) [.agg [.int (Mod (rawV L (rawP L t0.2.2.2)) 9),.int (Mod (rawV L (rawP L (rawP L t0.2.2.2))) 9)]]
(ck (decide (t0.2.2.1.length+1≤1048576))
R))) (.app 198 Hop.v t0.2.2.1 [(⟨Mod (rawV L (rawP L t0.2.2.2)) 9,Mod (rawV L (rawP L (rawP L t0.2.2.2))) 9⟩:Hop)]
(.req 278 ([0,77,-1]≠[]) λh1 =>
(.callH [0] (pckM_h L (rawP L (rawP L (rawP L t0.2.2.2))) [0,77,-1] h1) 278
(.say (λR=>Rf (α:=List AV) (t0.2.1.map AV.int) (Rf (α:=List AV) [.int (pickI [0,77,-1] (rawV L (rawP L (rawP L (rawP L t0.2.2.2)))))]
(ck (decide (t0.2.1.length+1≤1048576))
R))) (.app 310 AV.int t0.2.1 [pickI [0,77,-1] (rawV L (rawP L (rawP L (rawP L t0.2.2.2))))]
(.say (Rf ((t0.2.1++[pickI [0,77,-1] (rawV L (rawP L (rawP L (rawP L t0.2.2.2))))]).map AV.int)) (.cmdL (.frzE 310 ((t0.2.1++[pickI [0,77,-1] (rawV L (rawP L (rawP L (rawP L t0.2.2.2))))]).map AV.int) (pureBL_map (λ_=>rfl) (t0.2.1++[pickI [0,77,-1] (rawV L (rawP L (rawP L (rawP L t0.2.2.2))))]))) (.say (Rf ((t0.2.2.1++[(⟨Mod (rawV L (rawP L t0.2.2.2)) 9,Mod (rawV L (rawP L (rawP L t0.2.2.2))) 9⟩:Hop)]).map Hop.v)) (.cmdL (.frzE 198 ((t0.2.2.1++[(⟨Mod (rawV L (rawP L t0.2.2.2)) 9,Mod (rawV L (rawP L (rawP L t0.2.2.2))) 9⟩:Hop)]).map Hop.v) (pureBL_map (λ_=>rfl) (t0.2.2.1++[(⟨Mod (rawV L (rawP L t0.2.2.2)) 9,Mod (rawV L (rawP L (rawP L t0.2.2.2))) 9⟩:Hop)]))) (.retH ((⟨L,rawP L (rawP L (rawP L (rawP L t0.2.2.2)))⟩:Tap),(⟨t0.2.2.1++[(⟨Mod (rawV L (rawP L t0.2.2.2)) 9,Mod (rawV L (rawP L (rawP L t0.2.2.2))) 9⟩:Hop)],t0.2.1++[pickI [0,77,-1] (rawV L (rawP L (rawP L (rawP L t0.2.2.2))))]⟩:Flr)) ⟨[(4,.k,.ref 1 0)],[.box (.agg [.sl 1 (L.map AV.int) false,.int (((rawP L (rawP L (rawP L (rawP L t0.2.2.2)))):Nat):Int)]),.box (.agg [.sl 2 ((t0.2.2.1++[(⟨Mod (rawV L (rawP L t0.2.2.2)) 9,Mod (rawV L (rawP L (rawP L t0.2.2.2))) 9⟩:Hop)]).map Hop.v) false,.sl 1 ((t0.2.1++[pickI [0,77,-1] (rawV L (rawP L (rawP L (rawP L t0.2.2.2))))]).map AV.int) false])]⟩ [0,2])))))))))))))
(.say (Rf (t0.2.1.map AV.int)) (.cmdL (.frzE 5 (t0.2.1.map AV.int) (pureBL_map (λ_=>rfl) t0.2.1)) (.say (Rf (t0.2.2.1.map Hop.v)) (.cmdL (.frzE 4 (t0.2.2.1.map Hop.v) (pureBL_map (λ_=>rfl) t0.2.2.1)) (.retH ((⟨L,rawP L t0.2.2.2⟩:Tap),(⟨t0.2.2.1,t0.2.1⟩:Flr)) ⟨[(4,.k,.ref 1 0)],[.box (.agg [.sl 1 (L.map AV.int) false,.int (((rawP L t0.2.2.2):Nat):Int)]),.box (.agg [.sl 2 (t0.2.2.1.map Hop.v) false,.sl 1 (t0.2.1.map AV.int) false])]⟩ [0,2])))))))))))
def fasM_vc(L:(List Int))(p:Nat)(g:Tpl)(I0:(Int×(List Int)×(List Hop)×Nat)→Prop)(m0:(Int×(List Int)×(List Hop)×Nat)→Nat)(r0:Tap×Flr):Prop:=(fasM_x L p g I0 m0).vc fasM_e fasM_b r0
theorem faiM_len(L:List Int)(p:Nat)(g:Tpl):(faiM L p g).1.ls.length≤1∧(faiM L p g).1.rs.length≤1:=by
 have h1:∀q,(faR L q g).1.ls.length≤1∧(faR L q g).1.rs.length≤1:=λq=>by unfold faR;split<;>simp
 have h2:∀q,(faL L q g).1.ls.length≤1∧(faL L q g).1.rs.length≤1:=λq=>by unfold faL;split<;>simp<;>split<;>simp
 unfold faiM
 split
 ·split
  ·exact h2 _
  ·exact h1 _
 ·exact h1 _
theorem fasM_p(L:List Int)(p:Nat)(g:Tpl)(ok:fasM_a L p g):∃I0 m0,fasM_vc L p g I0 m0 ((⟨L,(fasM L p g).2⟩:Tap),(fasM L p g).1):=by
 refine⟨λs=>∃k:Nat,s.1=k∧k≤3∧s.2.1.length≤5-k∧s.2.2.1.length≤5-k∧fasL L g k ⟨s.2.2.1,s.2.1⟩ s.2.2.2=fasB L p g,λs=>s.1.toNat,?_⟩
 dsimp only[fasM_vc,fasM_x,fasM_s,Ax.vp,Ax.vc];simp only[vcU,rfU,List.length_map]
 have hm:=Mod_range (x:=rawV L (faiM L p g).2) (show(1:Int)≤3 by omega)
 have hf:=faiM_len L p g
 refine⟨⟨(Mod (rawV L (faiM L p g).2) 3).toNat,by omega,by omega,by omega,by omega,rfl⟩,?_⟩
 rintro⟨i,rs,ls,q⟩ ⟨k,hi,hk,hr,hl,hI⟩
 simp only at hi hr hl hI ⊢
 subst hi
 have hg:=faiM_len L q g
 refine⟨λc=>?_,λc=>?_⟩
 ·obtain⟨k,rfl⟩:∃j,k=j+1:=⟨k-1,by omega⟩
  rw[fasL]at hI
  have hw:W (((k+1:Nat):Int)-1)=(k:Nat):=by rw[W_eq (by omega)];omega
  rw[hw]
  exact⟨by omega,by omega,⟨k,rfl,by omega,by rw[List.length_append];omega,by rw[List.length_append];omega,hI⟩,by omega⟩
 ·obtain rfl:k=0:=by omega
  rw[fasL]at hI
  unfold fasM
  rw[←hI]
  simp only
  refine⟨λe=>?_,λe=>?_⟩
  ·rw[if_pos e];exact⟨by omega,by simp,by omega,rfl⟩
  ·rw[if_neg (by rw[e];simp)]
def fasM_h(L:(List Int))(p:Nat)(g:Tpl):HC Tryz.prog:=⟨25,[.k,(.a [(.s 2),(.s 5)])],[.ref 0 0,.agg [.sl 2 (g.rs.map Rtr.v) false,.sl 5 (g.ls.map Lnk.v) false]],[.box (.agg [.sl 1 (L.map AV.int) false,.int ((p:Nat):Int)])],fasM_e ((⟨L,(fasM L p g).2⟩:Tap),(fasM L p g).1),fasM_b ((⟨L,(fasM L p g).2⟩:Tap),(fasM L p g).1),HSpec.of_okh λok ok2=>have ok:fasM_a L p g:=⟨ok,ok2 _ (by simp)⟩;(fasM_p L p g ok).elim λI0 h=>h.elim λm0 h=>mxH_of (sh:=(.a [(.s 2),(.s 1)])) (enc:=fasM_e) (hB:=fasM_b) (a:=(fasM_x L p g I0 m0).an) h (by kernel_rfl),fnB_ok (by kernel_rfl),HcOk.of (by simp[hcB,belBL,AV.belB,allB,okBk,okBkO,fasM_e,fasM_b,pureBL_map (v:=AV.int) (λ_=>rfl),pureBL_map (v:=Lnk.v) (λ_=>rfl),pureBL_map (v:=Rtr.v) (λ_=>rfl)])⟩
def knoL_a(t:(List Int))(raw:Flr)(r:Int):Prop:=okL [.sl 1 (t.map AV.int) false,.agg [.sl 2 (raw.ls.map Hop.v) false,.sl 1 (raw.rs.map AV.int) false],.int r]
def knoL_n0(raw:Flr)(r:Int)(t0:Tap):NF:=⟨[(2,.k,.int r),(4,.k,.ref 0 0),(7,.k,.ref 1 0)],[.box (.agg [.sl 2 (raw.ls.map Hop.v) false,.sl 1 (raw.rs.map AV.int) false]),.box (.agg [.sl 1 (t0.L.map AV.int) false,.int ((t0.p:Nat):Int)])]⟩
def knoL_n1(raw:Flr)(r:Int)(t0:Tap)(t1:(List Rtr)×(List Lnk)):NF:=⟨[(2,.k,.int r),(4,.k,.ref 0 0),(7,.k,.ref 1 0),(8,.k,.ref 2 0)],[.box (.agg [.sl 2 (raw.ls.map Hop.v) false,.sl 1 (raw.rs.map AV.int) false]),.box (.agg [.sl 1 (t0.L.map AV.int) false,.int ((((topM t0.L t0.p 6 8).2):Nat):Int)]),.box (.agg [.vec 3,.vec 4]),.vec 2 (t1.1.map Rtr.v) (pureBL_map (λ_=>rfl) t1.1),.vec 5 (t1.2.map Lnk.v) (pureBL_map (λ_=>rfl) t1.2)]⟩
def knoL_n2(raw:Flr)(r:Int)(t0:Tap)(t1:(List Rtr)×(List Lnk))(t2:Int×Nat):NF:=⟨[(2,.k,.int r),(4,.k,.ref 0 0),(7,.k,.ref 1 0),(8,.k,.ref 2 0),(9,.k,.sl 2 [.agg [.sl 2 ((((faiM t0.L ((topM t0.L t0.p 6 8).2) (⟨t1.1,t1.2⟩:Tpl)).1).ls).map Hop.v) false,.sl 1 ((((faiM t0.L ((topM t0.L t0.p 6 8).2) (⟨t1.1,t1.2⟩:Tpl)).1).rs).map AV.int) false],.agg [.sl 2 ((((fasM t0.L ((faiM t0.L ((topM t0.L t0.p 6 8).2) (⟨t1.1,t1.2⟩:Tpl)).2) (⟨t1.1,t1.2⟩:Tpl)).1).ls).map Hop.v) false,.sl 1 ((((fasM t0.L ((faiM t0.L ((topM t0.L t0.p 6 8).2) (⟨t1.1,t1.2⟩:Tpl)).2) (⟨t1.1,t1.2⟩:Tpl)).1).rs).map AV.int) false],.agg [.sl 2 (raw.ls.map Hop.v) false,.sl 1 (raw.rs.map AV.int) false]] true),(10,.k,.int t2.1)],[.box (.agg [.sl 2 (raw.ls.map Hop.v) false,.sl 1 (raw.rs.map AV.int) false]),.box (.agg [.sl 1 (t0.L.map AV.int) false,.int ((t2.2:Nat):Int)]),.box (.agg [.sl 2 (t1.1.map Rtr.v) false,.sl 5 (t1.2.map Lnk.v) false])]⟩
def knoL_n3(raw:Flr)(r:Int)(t0:Tap)(t1:(List Rtr)×(List Lnk))(t2:Int×Nat)(t3:Bool):NF:=⟨[(2,.k,.int r),(4,.k,.ref 0 0),(7,.k,.ref 1 0),(8,.k,.ref 2 0),(9,.k,.sl 2 [.agg [.sl 2 ((((faiM t0.L ((topM t0.L t0.p 6 8).2) (⟨t1.1,t1.2⟩:Tpl)).1).ls).map Hop.v) false,.sl 1 ((((faiM t0.L ((topM t0.L t0.p 6 8).2) (⟨t1.1,t1.2⟩:Tpl)).1).rs).map AV.int) false],.agg [.sl 2 ((((fasM t0.L ((faiM t0.L ((topM t0.L t0.p 6 8).2) (⟨t1.1,t1.2⟩:Tpl)).2) (⟨t1.1,t1.2⟩:Tpl)).1).ls).map Hop.v) false,.sl 1 ((((fasM t0.L ((faiM t0.L ((topM t0.L t0.p 6 8).2) (⟨t1.1,t1.2⟩:Tpl)).2) (⟨t1.1,t1.2⟩:Tpl)).1).rs).map AV.int) false],.agg [.sl 2 (raw.ls.map Hop.v) false,.sl 1 (raw.rs.map AV.int) false]] true),(10,.k,.int t2.1),(36,.k,.bool t3)],[.box (.agg [.sl 2 (raw.ls.map Hop.v) false,.sl 1 (raw.rs.map AV.int) false]),.box (.agg [.sl 1 (t0.L.map AV.int) false,.int ((t2.2:Nat):Int)]),.box (.agg [.sl 2 (t1.1.map Rtr.v) false,.sl 5 (t1.2.map Lnk.v) false])]⟩
def knoL_n4(raw:Flr)(r:Int)(t0:Tap)(t1:(List Rtr)×(List Lnk))(t2:Int×Nat)(t4:Int):NF:=⟨[(2,.k,.int r),(4,.k,.ref 0 0),(7,.k,.ref 1 0),(8,.k,.ref 2 0),(9,.k,.sl 2 [.agg [.sl 2 ((((faiM t0.L ((topM t0.L t0.p 6 8).2) (⟨t1.1,t1.2⟩:Tpl)).1).ls).map Hop.v) false,.sl 1 ((((faiM t0.L ((topM t0.L t0.p 6 8).2) (⟨t1.1,t1.2⟩:Tpl)).1).rs).map AV.int) false],.agg [.sl 2 ((((fasM t0.L ((faiM t0.L ((topM t0.L t0.p 6 8).2) (⟨t1.1,t1.2⟩:Tpl)).2) (⟨t1.1,t1.2⟩:Tpl)).1).ls).map Hop.v) false,.sl 1 ((((fasM t0.L ((faiM t0.L ((topM t0.L t0.p 6 8).2) (⟨t1.1,t1.2⟩:Tpl)).2) (⟨t1.1,t1.2⟩:Tpl)).1).rs).map AV.int) false],.agg [.sl 2 (raw.ls.map Hop.v) false,.sl 1 (raw.rs.map AV.int) false]] true),(10,.k,.int t2.1),(11,.k,.sl 1 [.int r,.int ((rouM t0.L t2.2 (⟨t1.1,t1.2⟩:Tpl) 4).1)] true),(12,.k,.int t4)],[.box (.agg [.sl 2 (raw.ls.map Hop.v) false,.sl 1 (raw.rs.map AV.int) false]),.box (.agg [.sl 1 (t0.L.map AV.int) false,.int ((((rouM t0.L t2.2 (⟨t1.1,t1.2⟩:Tpl) 4).2):Nat):Int)]),.box (.agg [.sl 2 (t1.1.map Rtr.v) false,.sl 5 (t1.2.map Lnk.v) false])]⟩
def knoL_n5(raw:Flr)(r:Int)(t0:Tap)(t1:(List Rtr)×(List Lnk))(t2:Int×Nat)(t4:Int)(t5:Bool):NF:=⟨[(2,.k,.int r),(4,.k,.ref 0 0),(7,.k,.ref 1 0),(8,.k,.ref 2 0),(9,.k,.sl 2 [.agg [.sl 2 ((((faiM t0.L ((topM t0.L t0.p 6 8).2) (⟨t1.1,t1.2⟩:Tpl)).1).ls).map Hop.v) false,.sl 1 ((((faiM t0.L ((topM t0.L t0.p 6 8).2) (⟨t1.1,t1.2⟩:Tpl)).1).rs).map AV.int) false],.agg [.sl 2 ((((fasM t0.L ((faiM t0.L ((topM t0.L t0.p 6 8).2) (⟨t1.1,t1.2⟩:Tpl)).2) (⟨t1.1,t1.2⟩:Tpl)).1).ls).map Hop.v) false,.sl 1 ((((fasM t0.L ((faiM t0.L ((topM t0.L t0.p 6 8).2) (⟨t1.1,t1.2⟩:Tpl)).2) (⟨t1.1,t1.2⟩:Tpl)).1).rs).map AV.int) false],.agg [.sl 2 (raw.ls.map Hop.v) false,.sl 1 (raw.rs.map AV.int) false]] true),(10,.k,.int t2.1),(11,.k,.sl 1 [.int r,.int ((rouM t0.L t2.2 (⟨t1.1,t1.2⟩:Tpl) 4).1)] true),(12,.k,.int t4),(69,.k,.bool t5)],[.box (.agg [.sl 2 (raw.ls.map Hop.v) false,.sl 1 (raw.rs.map AV.int) false]),.box (.agg [.sl 1 (t0.L.map AV.int) false,.int ((((rouM t0.L t2.2 (⟨t1.1,t1.2⟩:Tpl) 4).2):Nat):Int)]),.box (.agg [.sl 2 (t1.1.map Rtr.v) false,.sl 5 (t1.2.map Lnk.v) false])]⟩
def knoL_n6(raw:Flr)(r:Int)(t0:Tap)(t1:(List Rtr)×(List Lnk))(t2:Int×Nat)(t6:Bool):NF:=⟨[(2,.k,.int r),(4,.k,.ref 0 0),(7,.k,.ref 1 0),(8,.k,.ref 2 0),(9,.k,.sl 2 [.agg [.sl 2 ((((faiM t0.L ((topM t0.L t0.p 6 8).2) (⟨t1.1,t1.2⟩:Tpl)).1).ls).map Hop.v) false,.sl 1 ((((faiM t0.L ((topM t0.L t0.p 6 8).2) (⟨t1.1,t1.2⟩:Tpl)).1).rs).map AV.int) false],.agg [.sl 2 ((((fasM t0.L ((faiM t0.L ((topM t0.L t0.p 6 8).2) (⟨t1.1,t1.2⟩:Tpl)).2) (⟨t1.1,t1.2⟩:Tpl)).1).ls).map Hop.v) false,.sl 1 ((((fasM t0.L ((faiM t0.L ((topM t0.L t0.p 6 8).2) (⟨t1.1,t1.2⟩:Tpl)).2) (⟨t1.1,t1.2⟩:Tpl)).1).rs).map AV.int) false],.agg [.sl 2 (raw.ls.map Hop.v) false,.sl 1 (raw.rs.map AV.int) false]] true),(10,.k,.int t2.1),(82,.k,.bool t6)],[.box (.agg [.sl 2 (raw.ls.map Hop.v) false,.sl 1 (raw.rs.map AV.int) false]),.box (.agg [.sl 1 (t0.L.map AV.int) false,.int ((((rouM t0.L t2.2 (⟨t1.1,t1.2⟩:Tpl) 4).2):Nat):Int)]),.box (.agg [.sl 2 (t1.1.map Rtr.v) false,.sl 5 (t1.2.map Lnk.v) false])]⟩
@[reducible] def knoL_s:Nat→Type
 | 0=>Tap
 | 1=>(List Rtr)×(List Lnk)
 | 2=>Int×Nat
 | 3=>Bool
 | 4=>Int
 | 5=>Bool
 | 6=>Bool
 | _=>Unit
def knoL_e(r:Bool):AV:=.bool r
def knoL_x(t:(List Int))(raw:Flr)(r:Int)(I2:Tap→(List Rtr)×(List Lnk)→(Int×Nat)→Prop)(m2:Tap→(List Rtr)×(List Lnk)→(Int×Nat)→Nat)(I3:Tap→(List Rtr)×(List Lnk)→Int×Nat→Bool→Prop)(I4:Tap→(List Rtr)×(List Lnk)→Int×Nat→Bool→Int→Prop)(m4:Tap→(List Rtr)×(List Lnk)→Int×Nat→Bool→Int→Nat):Ax Tryz.prog knoL_s (Bool):=
 (.pass (.join 0 (knoL_n0 raw r) (λ(t0:Tap)=>t0=(((⟨t.take 600,0⟩:Tap)):Tap)) (λb0=>(.callH [] (newM_h t) 48
(.bk 0 b0 (((⟨t.take 600,0⟩:Tap)):Tap) [0,48]))) λ(t0:Tap) =>
(.join 1 (knoL_n1 raw r t0) (λ(t1:(List Rtr)×(List Lnk))=>t1=((((topM t0.L t0.p 6 8).1).rs,((topM t0.L t0.p 6 8).1).ls):(List Rtr)×(List Lnk))) (λb1=>(.req 18 (1≤6∧6≤20) λh1 =>
(.callH [1] (topM_h t0.L t0.p 6 8 h1) 18
(.bk 1 b1 (((topM t0.L t0.p 6 8).1).rs,((topM t0.L t0.p 6 8).1).ls) [0,1,34,18,19])))) λ(t1:(List Rtr)×(List Lnk)) =>
(.say (Rf (t1.1.map Rtr.v)) (.cmd (.frzE 3 (t1.1.map Rtr.v) (pureBL_map (λ_=>rfl) t1.1)) (.say (Rf (t1.2.map Lnk.v)) (.cmd (.frzE 4 (t1.2.map Lnk.v) (pureBL_map (λ_=>rfl) t1.2)) (.callH [1] (faiV_h t0.L ((topM t0.L t0.p 6 8).2) (⟨t1.1,t1.2⟩:Tpl)) 37
(.callH [1] (fasM_h t0.L ((faiM t0.L ((topM t0.L t0.p 6 8).2) (⟨t1.1,t1.2⟩:Tpl)).2) (⟨t1.1,t1.2⟩:Tpl)) 85
(.loop 2 (knoL_n2 raw r t0 t1) (I2 t0 t1) (m2 t0 t1) (0,(fasM t0.L ((faiM t0.L ((topM t0.L t0.p 6 8).2) (⟨t1.1,t1.2⟩:Tpl)).2) (⟨t1.1,t1.2⟩:Tpl)).2) [0,1,2] λ(t2:Int×Nat) b2 =>
(.pass (.join 3 (knoL_n3 raw r t0 t1 t2) (λ(t3:Bool)=>I3 t0 t1 t2 t3) (λb3=>(.br 51 (decide (t2.1<3)) (.bk 3 b3 ((decide ((W (((raw.ls.map Hop.v).length:Int)+((raw.rs.map AV.int).length:Int)))≤200)):Bool) [0,1,2])
(.bk 3 b3 ((false):Bool) [0,1,2]))) λ(t3:Bool) =>
(.br 3 t3 (.callH [1] (rouM_h t0.L t2.2 (⟨t1.1,t1.2⟩:Tpl) 4) 51
(.loop 4 (knoL_n4 raw r t0 t1 t2) (I4 t0 t1 t2 t3) (m4 t0 t1 t2 t3) ((0):Int) [0,1,2] λ(t4:Int) b4 =>
(.br 35 (decide (t4<2)) (.pass (.join 5 (knoL_n5 raw r t0 t1 t2 t4) (λ(t5:Bool)=>(∃x2':Flr,[(faiM t0.L ((topM t0.L t0.p 6 8).2) (⟨t1.1,t1.2⟩:Tpl)).1,(fasM t0.L ((faiM t0.L ((topM t0.L t0.p 6 8).2) (⟨t1.1,t1.2⟩:Tpl)).2) (⟨t1.1,t1.2⟩:Tpl)).1,raw][t2.1.toNat]?=some x2'∧∃x3':Int,[r,(rouM t0.L t2.2 (⟨t1.1,t1.2⟩:Tpl) 4).1][t4.toNat]?=some x3'∧∃x4':Flr,[(faiM t0.L ((topM t0.L t0.p 6 8).2) (⟨t1.1,t1.2⟩:Tpl)).1,(fasM t0.L ((faiM t0.L ((topM t0.L t0.p 6 8).2) (⟨t1.1,t1.2⟩:Tpl)).2) (⟨t1.1,t1.2⟩:Tpl)).1,raw][t2.1.toNat]?=some x4'∧∃x5':Int,[r,(rouM t0.L t2.2 (⟨t1.1,t1.2⟩:Tpl) 4).1][t4.toNat]?=some x5'∧t5=((!(decide ((dwnT (⟨t1.1,t1.2⟩:Tpl) x2' x3')=(dwnT (⟨t1.1,t1.2⟩:Tpl) x4' x5')))):Bool))) (λb5=>(.el 83 Flr.v [(faiM t0.L ((topM t0.L t0.p 6 8).2) (⟨t1.1,t1.2⟩:Tpl)).1,(fasM t0.L ((faiM t0.L ((topM t0.L t0.p 6 8).2) (⟨t1.1,t1.2⟩:Tpl)).2) (⟨t1.1,t1.2⟩:Tpl)).1,raw] (λR=>Rf (α:=List AV) [.agg [.sl 2 ((((faiM t0.L ((topM t0.L t0.p 6 8).2) (⟨t1.1,t1.2⟩:Tpl)).1).ls).map Hop.v) false,.sl 1 ((((faiM t0.L ((topM t0.L t0.p 6 8).2) (⟨t1.1,t1.2⟩:Tpl)).1).rs).map AV.int) false],.agg [.sl 2 ((((fasM t0.L ((faiM t0.L ((topM t0.L t0.p 6 8).2) (⟨t1.1,t1.2⟩:Tpl)).2) (⟨t1.1,t1.2⟩:Tpl)).1).ls).map Hop.v) false,.sl 1 ((((fasM t0.L ((faiM t0.L ((topM t0.L t0.p 6 8).2) (⟨t1.1,t1.2⟩:Tpl)).2) (⟨t1.1,t1.2⟩:Tpl)).1).rs).map AV.int) false],.agg [.sl 2 (raw.ls.map Hop.v) false,.sl 1 (raw.rs.map AV.int) false]] (ck (decide (0≤t2.1)) (ck (decide (t2.1<([(faiM t0.L ((topM t0.L t0.p 6 8).2) (⟨t1.1,t1.2⟩:Tpl)).1,(fasM t0.L ((faiM t0.L ((topM t0.L t0.p 6 8).2) (⟨t1.1,t1.2⟩:Tpl)).2) (⟨t1.1,t1.2⟩:Tpl)).1,raw].length:Int)))
(∀x2,[(faiM t0.L ((topM t0.L t0.p 6 8).2) (⟨t1.1,t1.2⟩:Tpl)).1,(fasM t0.L ((faiM t0.L ((topM t0.L t0.p 6 8).2) (⟨t1.1,t1.2⟩:Tpl)).2) (⟨t1.1,t1.2⟩:Tpl)).1,raw][t2.1.toNat]?=some x2 →
(R x2))))) λx2 =>
(.el 147 AV.int [r,(rouM t0.L t2.2 (⟨t1.1,t1.2⟩:Tpl) 4).1] (λR=>Rf (α:=List AV) [.int r,.int ((rouM t0.L t2.2 (⟨t1.1,t1.2⟩:Tpl) 4).1)] (ck (decide (0≤t4)) (ck (decide (t4<([r,(rouM t0.L t2.2 (⟨t1.1,t1.2⟩:Tpl) 4).1].length:Int)))
(∀x3,[r,(rouM t0.L t2.2 (⟨t1.1,t1.2⟩:Tpl) 4).1][t4.toNat]?=some x3 →
(R x3))))) λx3 =>
(.callP (dwnP_c (⟨t1.1,t1.2⟩:Tpl) x2 x3)
(.el 243 Flr.v [(faiM t0.L ((topM t0.L t0.p 6 8).2) (⟨t1.1,t1.2⟩:Tpl)).1,(fasM t0.L ((faiM t0.L ((topM t0.L t0.p 6 8).2) (⟨t1.1,t1.2⟩:Tpl)).2) (⟨t1.1,t1.2⟩:Tpl)).1,raw] (λR=>Rf (α:=List AV) [.agg [.sl 2 ((((faiM t0.L ((topM t0.L t0.p 6 8).2) (⟨t1.1,t1.2⟩:Tpl)).1).ls).map Hop.v) false,.sl 1 ((((faiM t0.L ((topM t0.L t0.p 6 8).2) (⟨t1.1,t1.2⟩:Tpl)).1).rs).map AV.int) false],.agg [.sl 2 ((((fasM t0.L ((faiM t0.L ((topM t0.L t0.p 6 8).2) (⟨t1.1,t1.2⟩:Tpl)).2) (⟨t1.1,t1.2⟩:Tpl)).1).ls).map Hop.v) false,.sl 1 ((((fasM t0.L ((faiM t0.L ((topM t0.L t0.p 6 8).2) (⟨t1.1,t1.2⟩:Tpl)).2) (⟨t1.1,t1.2⟩:Tpl)).1).rs).map AV.int) false],.agg [.sl 2 (raw.ls.map Hop.v) false,.sl 1 (raw.rs.map AV.int) false]] (ck (decide (0≤t2.1)) (ck (decide (t2.1<([(faiM t0.L ((topM t0.L t0.p 6 8).2) (⟨t1.1,t1.2⟩:Tpl)).1,(fasM t0.L ((faiM t0.L ((topM t0.L t0.p 6 8).2) (⟨t1.1,t1.2⟩:Tpl)).2) (⟨t1.1,t1.2⟩:Tpl)).1,raw].length:Int)))
(∀x4,[(faiM t0.L ((topM t0.L t0.p 6 8).2) (⟨t1.1,t1.2⟩:Tpl)).1,(fasM t0.L ((faiM t0.L ((topM t0.L t0.p 6 8).2) (⟨t1.1,t1.2⟩:Tpl)).2) (⟨t1.1,t1.2⟩:Tpl)).1,raw][t2.1.toNat]?=some x4 →
(R x4))))) λx4 =>
(.el 307 AV.int [r,(rouM t0.L t2.2 (⟨t1.1,t1.2⟩:Tpl) 4).1] (λR=>Rf (α:=List AV) [.int r,.int ((rouM t0.L t2.2 (⟨t1.1,t1.2⟩:Tpl) 4).1)] (ck (decide (0≤t4)) (ck (decide (t4<([r,(rouM t0.L t2.2 (⟨t1.1,t1.2⟩:Tpl) 4).1].length:Int)))
(∀x5,[r,(rouM t0.L t2.2 (⟨t1.1,t1.2⟩:Tpl) 4).1][t4.toNat]?=some x5 →
(R x5))))) λx5 =>
(.callP (dwnR_c (⟨t1.1,t1.2⟩:Tpl) x4 x5)
(.callP (intE_c (dwnT (⟨t1.1,t1.2⟩:Tpl) x2 x3) (dwnT (⟨t1.1,t1.2⟩:Tpl) x4 x5))
(.bk 5 b5 ((!(decide ((dwnT (⟨t1.1,t1.2⟩:Tpl) x2 x3)=(dwnT (⟨t1.1,t1.2⟩:Tpl) x4 x5)))):Bool) [0,1,2]))))))))) λ(t5:Bool) =>
(.br 3 t5 (.ret (false))
(.bk 4 b4 ((W (t4+1)):Int) [0,1,2]))))
(.join 6 (knoL_n6 raw r t0 t1 t2) (λ(t6:Bool)=>(∃x6':Flr,[(faiM t0.L ((topM t0.L t0.p 6 8).2) (⟨t1.1,t1.2⟩:Tpl)).1,(fasM t0.L ((faiM t0.L ((topM t0.L t0.p 6 8).2) (⟨t1.1,t1.2⟩:Tpl)).2) (⟨t1.1,t1.2⟩:Tpl)).1,raw][t2.1.toNat]?=some x6'∧∃x7':Flr,[(faiM t0.L ((topM t0.L t0.p 6 8).2) (⟨t1.1,t1.2⟩:Tpl)).1,(fasM t0.L ((faiM t0.L ((topM t0.L t0.p 6 8).2) (⟨t1.1,t1.2⟩:Tpl)).2) (⟨t1.1,t1.2⟩:Tpl)).1,raw][t2.1.toNat]?=some x7'∧t6=((!((sglT (⟨t1.1,t1.2⟩:Tpl) x6')==(sglT (⟨t1.1,t1.2⟩:Tpl) x7'))):Bool))) (λb6=>(.el 83 Flr.v [(faiM t0.L ((topM t0.L t0.p 6 8).2) (⟨t1.1,t1.2⟩:Tpl)).1,(fasM t0.L ((faiM t0.L ((topM t0.L t0.p 6 8).2) (⟨t1.1,t1.2⟩:Tpl)).2) (⟨t1.1,t1.2⟩:Tpl)).1,raw] (λR=>Rf (α:=List AV) [.agg [.sl 2 ((((faiM t0.L ((topM t0.L t0.p 6 8).2) (⟨t1.1,t1.2⟩:Tpl)).1).ls).map Hop.v) false,.sl 1 ((((faiM t0.L ((topM t0.L t0.p 6 8).2) (⟨t1.1,t1.2⟩:Tpl)).1).rs).map AV.int) false],.agg [.sl 2 ((((fasM t0.L ((faiM t0.L ((topM t0.L t0.p 6 8).2) (⟨t1.1,t1.2⟩:Tpl)).2) (⟨t1.1,t1.2⟩:Tpl)).1).ls).map Hop.v) false,.sl 1 ((((fasM t0.L ((faiM t0.L ((topM t0.L t0.p 6 8).2) (⟨t1.1,t1.2⟩:Tpl)).2) (⟨t1.1,t1.2⟩:Tpl)).1).rs).map AV.int) false],.agg [.sl 2 (raw.ls.map Hop.v) false,.sl 1 (raw.rs.map AV.int) false]] (ck (decide (0≤t2.1)) (ck (decide (t2.1<([(faiM t0.L ((topM t0.L t0.p 6 8).2) (⟨t1.1,t1.2⟩:Tpl)).1,(fasM t0.L ((faiM t0.L ((topM t0.L t0.p 6 8).2) (⟨t1.1,t1.2⟩:Tpl)).2) (⟨t1.1,t1.2⟩:Tpl)).1,raw].length:Int)))
(∀x6,[(faiM t0.L ((topM t0.L t0.p 6 8).2) (⟨t1.1,t1.2⟩:Tpl)).1,(fasM t0.L ((faiM t0.L ((topM t0.L t0.p 6 8).2) (⟨t1.1,t1.2⟩:Tpl)).2) (⟨t1.1,t1.2⟩:Tpl)).1,raw][t2.1.toNat]?=some x6 →
(R x6))))) λx6 =>
(.callP (sglP_c (⟨t1.1,t1.2⟩:Tpl) x6)
(.el 179 Flr.v [(faiM t0.L ((topM t0.L t0.p 6 8).2) (⟨t1.1,t1.2⟩:Tpl)).1,(fasM t0.L ((faiM t0.L ((topM t0.L t0.p 6 8).2) (⟨t1.1,t1.2⟩:Tpl)).2) (⟨t1.1,t1.2⟩:Tpl)).1,raw] (λR=>Rf (α:=List AV) [.agg [.sl 2 ((((faiM t0.L ((topM t0.L t0.p 6 8).2) (⟨t1.1,t1.2⟩:Tpl)).1).ls).map Hop.v) false,.sl 1 ((((faiM t0.L ((topM t0.L t0.p 6 8).2) (⟨t1.1,t1.2⟩:Tpl)).1).rs).map AV.int) false],.agg [.sl 2 ((((fasM t0.L ((faiM t0.L ((topM t0.L t0.p 6 8).2) (⟨t1.1,t1.2⟩:Tpl)).2) (⟨t1.1,t1.2⟩:Tpl)).1).ls).map Hop.v) false,.sl 1 ((((fasM t0.L ((faiM t0.L ((topM t0.L t0.p 6 8).2) (⟨t1.1,t1.2⟩:Tpl)).2) (⟨t1.1,t1.2⟩:Tpl)).1).rs).map AV.int) false],.agg [.sl 2 (raw.ls.map Hop.v) false,.sl 1 (raw.rs.map AV.int) false]] (ck (decide (0≤t2.1)) (ck (decide (t2.1<([(faiM t0.L ((topM t0.L t0.p 6 8).2) (⟨t1.1,t1.2⟩:Tpl)).1,(fasM t0.L ((faiM t0.L ((topM t0.L t0.p 6 8).2) (⟨t1.1,t1.2⟩:Tpl)).2) (⟨t1.1,t1.2⟩:Tpl)).1,raw].length:Int)))
(∀x7,[(faiM t0.L ((topM t0.L t0.p 6 8).2) (⟨t1.1,t1.2⟩:Tpl)).1,(fasM t0.L ((faiM t0.L ((topM t0.L t0.p 6 8).2) (⟨t1.1,t1.2⟩:Tpl)).2) (⟨t1.1,t1.2⟩:Tpl)).1,raw][t2.1.toNat]?=some x7 →
(R x7))))) λx7 =>
(.callP (sglR_c (⟨t1.1,t1.2⟩:Tpl) x7)
(.bk 6 b6 ((!((sglT (⟨t1.1,t1.2⟩:Tpl) x6)==(sglT (⟨t1.1,t1.2⟩:Tpl) x7))):Bool) [0,1,2])))))) λ(t6:Bool) =>
(.br 3 t6 (.ret (false))
(.bk 2 b2 (W (t2.1+1),(rouM t0.L t2.2 (⟨t1.1,t1.2⟩:Tpl) 4).2) [0,1,2]))))))
(.callP (awk20_c )
(.ret (true))))))))))))))))
def knoL_vc(t:(List Int))(raw:Flr)(r:Int)(I2:Tap→(List Rtr)×(List Lnk)→(Int×Nat)→Prop)(m2:Tap→(List Rtr)×(List Lnk)→(Int×Nat)→Nat)(I3:Tap→(List Rtr)×(List Lnk)→Int×Nat→Bool→Prop)(I4:Tap→(List Rtr)×(List Lnk)→Int×Nat→Bool→Int→Prop)(m4:Tap→(List Rtr)×(List Lnk)→Int×Nat→Bool→Int→Nat)(r0:Bool):Prop:=(knoL_x t raw r I2 m2 I3 I4 m4).vp knoL_e r0
theorem knoL_p(t:List Int)(raw:Flr)(r:Int)(ok:knoL_a t raw r):∃I2 m2 I3 I4 m4,knoL_vc t raw r I2 m2 I3 I4 m4 true:=by
 refine⟨λ_ _ s=>∃k:Nat,s.1=k∧k≤3,λ_ _ s=>3-s.1.toNat,λ_ _ s b=>b=true→s.1<3,λ_ _ _ _ i=>∃k:Nat,i=k∧k≤2,λ_ _ _ _ i=>2-i.toNat,?_⟩
 dsimp only[knoL_vc,knoL_x,knoL_s,Ax.vp,Ax.vc];simp only[vcU,rfU,List.length_map]
 refine⟨trivial,?_⟩
 rintro _ rfl
 refine⟨⟨by omega,trivial⟩,?_⟩
 rintro _ rfl
 refine⟨⟨0,rfl,by omega⟩,?_⟩
 rintro⟨i,q⟩ ⟨k,hi,hk⟩
 simp only at hi ⊢
 subst hi
 generalize hg:(⟨(topM (List.take 600 t) 0 6 8).1.rs,(topM (List.take 600 t) 0 6 8).1.ls⟩:Tpl)=g
 generalize hF:[(faiM (List.take 600 t) (topM (List.take 600 t) 0 6 8).2 g).1,(fasM (List.take 600 t) (faiM (List.take 600 t) (topM (List.take 600 t) 0 6 8).2 g).2 g).1,raw]=F
 have hl:F.length=3:=by rw[←hF];rfl
 generalize hR:[r,(rouM (List.take 600 t) q g 4).1]=R
 have hr:R.length=2:=by rw[←hR];rfl
 refine⟨⟨λc _=>c,λc=>by simp⟩,λb hb=>⟨λe=>⟨⟨0,rfl,by omega⟩,?_⟩,λe=>?_⟩⟩
 ·have hk3:=hb e
  rintro _ ⟨j,rfl,hj⟩
  have hx:=List.getElem?_eq_getElem (show k<F.length by omega)
  simp only[Int.toNat_natCast]
  refine⟨λc=>?_,λc=>?_⟩
  ·have hy:=List.getElem?_eq_getElem (show j<R.length by omega)
   generalize F[k]=x at hx
   generalize R[j]=y at hy
   rw[hx,hy,hl,hr]
   refine⟨⟨by omega,by omega,?_⟩,?_⟩
   ·rintro _ ⟨⟩
    refine⟨by omega,by omega,?_⟩
    rintro _ ⟨⟩
    refine⟨by omega,by omega,?_⟩
    rintro _ ⟨⟩
    refine⟨by omega,by omega,?_⟩
    rintro _ ⟨⟩
    exact⟨_,rfl,_,rfl,_,rfl,_,rfl,rfl⟩
   ·rintro b2 ⟨_,⟨⟩,_,⟨⟩,_,⟨⟩,_,⟨⟩,hb2⟩
    have hb2:b2=false:=by rw[hb2];simp
    subst hb2
    refine⟨λe=>e,λ_=>?_⟩
    rw[W_succ (n:=2) (by omega) (by omega)]
    exact⟨⟨j+1,rfl,by omega⟩,by omega⟩
  ·generalize F[k]=x at hx
   rw[hx,hl]
   refine⟨⟨by omega,by omega,?_⟩,?_⟩
   ·rintro _ ⟨⟩
    refine⟨by omega,by omega,?_⟩
    rintro _ ⟨⟩
    exact⟨_,rfl,_,rfl,rfl⟩
   ·rintro b2 ⟨_,⟨⟩,_,⟨⟩,hb2⟩
    have hb2:b2=false:=by rw[hb2];simp
    subst hb2
    refine⟨λe=>e,λ_=>?_⟩
    rw[W_succ (n:=3) (by omega) (by omega)]
    exact⟨⟨k+1,rfl,by omega⟩,by omega⟩
 ·trivial
def knoL_c(t:(List Int))(raw:Flr)(r:Int):PC Tryz.prog:=⟨5,[(.s 1),(.a [(.s 2),(.s 1)]),.k],[.sl 1 (t.map AV.int) false,.agg [.sl 2 (raw.ls.map Hop.v) false,.sl 1 (raw.rs.map AV.int) false],.int r],knoL_e true,PSpec.of_ok λok=>(knoL_p t raw r ok).elim λI2 h=>h.elim λm2 h=>h.elim λI3 h=>h.elim λI4 h=>h.elim λm4 h=>mxP_of (sh:=.k) (enc:=knoL_e) (a:=(knoL_x t raw r I2 m2 I3 I4 m4).an) h (by kernel_rfl) (AV.pureB_ok rfl),fnB_ok (by kernel_rfl)⟩
end Go.Proofs.YteooglpnechplaaGreat
