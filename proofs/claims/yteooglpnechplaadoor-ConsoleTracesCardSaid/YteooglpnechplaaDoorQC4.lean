/- Texts joined: G0 G1 G2 TP0 LP P0 P1 BT BV P2. -/
import Derived.Test.YteooglpnechplaaDoorProg
import Derived.Test.YteooglpnechplaaDoorQC3
set_option linter.unusedVariables false
set_option linter.unusedSimpArgs false
namespace Go.Proofs.YteooglpnechplaaDoor
open Go Go.Am
structure Flt where
  mode:Int
  srcs:List Int
  deriving DecidableEq
structure Tap where
  L:List Int
  p:Nat
structure TapI where
  L:List Int
  p:Int
def Tap.v(x:Tap):AV:=.agg [.sl 1 (x.L.map AV.int) false,.int x.p]
def Mod(x n:Int):Int:=if n<1 then 0 else if x.tmod n<0 then x.tmod n+n else x.tmod n
theorem Mod_range{x n:Int}(h:1≤n):0≤Mod x n∧Mod x n<n:=by
 have hb:=Int.tmod_lt_of_pos x (show 0<n by omega)
 have hb':=Int.lt_tmod_of_pos x (show 0<n by omega)
 unfold Mod;split
 ·omega
 split<;>omega
def Mod_a(x:Int)(n:Int):Prop:=okL [.int x,.int n]
def Mod_e(r:Int):AV:=.int r
def Mod_x(x:Int)(n:Int):Ax Tryd.prog noS (Int):=
 (.br 48 (decide (n<1)) (.ret (0))
(.say (ck (!(n==0))) (.br 144 (decide ((x.tmod n)<0)) (.ret (W ((x.tmod n)+n)))
(.ret (x.tmod n)))))
def Mod_vc(x:Int)(n:Int)(r0:Int):Prop:=(Mod_x x n).vp Mod_e r0
theorem Mod_p(x n:Int)(ok:Mod_a x n):Mod_vc x n (Mod x n):=by
 simp only[Mod_a,okU,Blk.ok,plainV,List.length_map]at ok
 dsimp only[Mod_vc,Mod_x,noS,Ax.vp,Ax.vc];simp only[vcU,rfU,List.length_map]
 refine⟨λh=>by rw[Mod,if_pos h],λh=>⟨by simp;omega,λh2=>?_,λh2=>by rw[Mod,if_neg h,if_neg h2]⟩⟩
 have hb:=Int.tmod_lt_of_pos x (show 0<n by omega)
 have hb':=Int.lt_tmod_of_pos x (show 0<n by omega)
 rw[Mod,if_neg h,if_pos h2,W_eq (by omega)]
def Mod_c(x:Int)(n:Int):PC Tryd.prog:=⟨39,[.k,.k],[.int x,.int n],Mod_e (Mod x n),PSpec.of_ok λok=>mxP_of (sh:=.k) (enc:=Mod_e) (a:=(Mod_x x n).an) (Mod_p x n ok) (by kernel_rfl) (AV.pureB_ok rfl),fnB_ok (by kernel_rfl)⟩
def rawP(L:List Int)(p:Nat):Nat:=if L.length≤p then p else p+1
def rawV(L:List Int)(p:Nat):Int:=L.getD p 0
def Raw_a(L:(List Int))(p:Int):Prop:=okL [.ref 0 0]∧(.box (.agg [.sl 1 (L.map AV.int) false,.int p]):Blk).ok
def Raw_e(r:TapI×Int):AV:=.int r.2
def Raw_b(r:TapI×Int):List (Option Blk):=[some (.box (.agg [.sl 1 (r.1.L.map AV.int) false,.int r.1.p]))]
def Raw_x(L:(List Int))(p:Int):Ax Tryd.prog noS (TapI×Int):=
 (.br 177 (decide (((L.map AV.int).length:Int)≤p)) (.retH ((⟨L,p⟩:TapI),0) ⟨[(2,.k,.int 0)],[.box (.agg [.sl 1 (L.map AV.int) false,.int p])]⟩ [0])
(.el 449 AV.int L (λR=>Rf (L.map AV.int) (ck (decide (0≤(W ((W (p+1))-1)))) (ck (decide ((W ((W (p+1))-1))<(L.length:Int)))
(∀x1,L[(W ((W (p+1))-1)).toNat]?=some x1 →
(R x1))))) λx1 =>
(.retH ((⟨L,W (p+1)⟩:TapI),x1) ⟨[(2,.k,.int x1)],[.box (.agg [.sl 1 (L.map AV.int) false,.int (W (p+1))])]⟩ [0])))
def Raw_vc(L:(List Int))(p:Int)(r0:TapI×Int):Prop:=(Raw_x L p).vc Raw_e Raw_b r0
theorem Raw_ok(L:(List Int))(p:Int)(r0:TapI×Int)(h:Raw_vc L p r0):HSpec Tryd.prog 40 [.ref 0 0] [.box (.agg [.sl 1 (L.map AV.int) false,.int p])] (Raw_e r0) (Raw_b r0):=mxH_of (sh:=.k) (hB:=Raw_b) (a:=(Raw_x L p).an) h (by kernel_rfl)
theorem Raw_p(L:List Int)(p:Nat)(ok:Raw_a L p):Raw_vc L p (⟨L,rawP L p⟩,rawV L p):=by
 simp only[Raw_a,okU,Blk.ok,plainV,List.length_map]at ok
 dsimp only[Raw_vc,Raw_x,noS,Ax.vp,Ax.vc];simp only[vcU,rfU,List.length_map]
 refine⟨λh=>?_,λh=>?_⟩
 ·rw[rawP,if_pos (by omega)];simp[rawV,List.getElem?_eq_none (show L.length≤p by omega)]
 ·have e1:W ((p:Int)+1)=p+1:=W_eq (by omega)
  have e2:W ((p:Int)+1-1)=p:=by rw[W_eq (by omega)];omega
  rw[e1,e2]
  refine⟨by omega,by omega,λx hx=>?_⟩
  rw[Int.toNat_natCast]at hx
  rw[rawP,if_neg (by omega)];simp[rawV,hx]
theorem Raw_spec(L:List Int)(p:Nat):HSpec Tryd.prog 40 [.ref 0 0] [.box (Tap.v ⟨L,p⟩)] (.int (rawV L p)) [some (.box (Tap.v ⟨L,rawP L p⟩))]:=
 HSpec.of_okh λok ok2=>Raw_ok L p _ (Raw_p L p ⟨ok,ok2 _ (List.mem_singleton.mpr rfl)⟩)
def Raw_h(L:List Int)(p:Nat):HC Tryd.prog:=⟨40,[],[.ref 0 0],[.box (Tap.v ⟨L,p⟩)],.int (rawV L p),[some (.box (Tap.v ⟨L,rawP L p⟩))],Raw_spec L p,fnB_ok (by kernel_rfl),HcOk.of rfl⟩
def N_a(L:(List Int))(p:Nat)(n:Int):Prop:=okL [.ref 0 0,.int n]∧(.box (.agg [.sl 1 (L.map AV.int) false,.int ((p:Nat):Int)]):Blk).ok
def N_e(r:Tap×Int):AV:=.int r.2
def N_b(r:Tap×Int):List (Option Blk):=[some (.box (.agg [.sl 1 (r.1.L.map AV.int) false,.int ((r.1.p:Nat):Int)]))]
def N_x(L:(List Int))(p:Nat)(n:Int):Ax Tryd.prog noS (Tap×Int):=
 (.callH [0] (Raw_h L p) 33
(.callP (Mod_c (rawV L p) n)
(.retH ((⟨L,rawP L p⟩:Tap),Mod (rawV L p) n) ⟨[(4,.k,.int (Mod (rawV L p) n))],[.box (.agg [.sl 1 (L.map AV.int) false,.int (((rawP L p):Nat):Int)])]⟩ [0])))
def N_vc(L:(List Int))(p:Nat)(n:Int)(r0:Tap×Int):Prop:=(N_x L p n).vc N_e N_b r0
theorem N_p(L:List Int)(p:Nat)(n:Int)(ok:N_a L p n):N_vc L p n (⟨L,rawP L p⟩,Mod (rawV L p) n):=by
 dsimp only[N_vc,N_x,noS,Ax.vp,Ax.vc];simp only[vcU,rfU,List.length_map]
def N_h(L:(List Int))(p:Nat)(n:Int):HC Tryd.prog:=⟨10,[.k,.k],[.ref 0 0,.int n],[.box (.agg [.sl 1 (L.map AV.int) false,.int ((p:Nat):Int)])],N_e ((⟨L,rawP L p⟩,Mod (rawV L p) n):Tap×Int),N_b ((⟨L,rawP L p⟩,Mod (rawV L p) n):Tap×Int),HSpec.of_okh λok ok2=>have ok:N_a L p n:=⟨ok,ok2 _ (by simp)⟩;mxH_of (sh:=.k) (enc:=N_e) (hB:=N_b) (a:=(N_x L p n).an) (N_p L p n ok) (by kernel_rfl),fnB_ok (by kernel_rfl),HcOk.of (by simp[hcB,belBL,AV.belB,allB,okBk,okBkO,N_e,N_b,pureBL_map (v:=AV.int) (λ_=>rfl)])⟩
def rng(L:List Int)(p:Nat)(lo hi:Int):Int:=W (lo+Mod (rawV L p) (W (W (hi-lo)+1)))
def Range_a(L:(List Int))(p:Nat)(lo:Int)(hi:Int):Prop:=okL [.ref 0 0,.int lo,.int hi]∧(.box (.agg [.sl 1 (L.map AV.int) false,.int ((p:Nat):Int)]):Blk).ok
def Range_e(r:Tap×Int):AV:=.int r.2
def Range_b(r:Tap×Int):List (Option Blk):=[some (.box (.agg [.sl 1 (r.1.L.map AV.int) false,.int ((r.1.p:Nat):Int)]))]
def Range_x(L:(List Int))(p:Nat)(lo:Int)(hi:Int):Ax Tryd.prog noS (Tap×Int):=
 (.callH [0] (N_h L p (W ((W (hi-lo))+1))) 113
(.retH ((⟨L,rawP L p⟩:Tap),W (lo+(Mod (rawV L p) (W ((W (hi-lo))+1))))) ⟨[(6,.k,.int (W (lo+(Mod (rawV L p) (W ((W (hi-lo))+1))))))],[.box (.agg [.sl 1 (L.map AV.int) false,.int (((rawP L p):Nat):Int)])]⟩ [0]))
def Range_vc(L:(List Int))(p:Nat)(lo:Int)(hi:Int)(r0:Tap×Int):Prop:=(Range_x L p lo hi).vc Range_e Range_b r0
theorem Range_p(L:List Int)(p:Nat)(lo hi:Int)(ok:Range_a L p lo hi):Range_vc L p lo hi (⟨L,rawP L p⟩,rng L p lo hi):=by
 dsimp only[Range_vc,Range_x,noS,Ax.vp,Ax.vc];simp only[vcU,rfU,List.length_map]
 rfl
def Range_h(L:(List Int))(p:Nat)(lo:Int)(hi:Int):HC Tryd.prog:=⟨37,[.k,.k,.k],[.ref 0 0,.int lo,.int hi],[.box (.agg [.sl 1 (L.map AV.int) false,.int ((p:Nat):Int)])],Range_e ((⟨L,rawP L p⟩,rng L p lo hi):Tap×Int),Range_b ((⟨L,rawP L p⟩,rng L p lo hi):Tap×Int),HSpec.of_okh λok ok2=>have ok:Range_a L p lo hi:=⟨ok,ok2 _ (by simp)⟩;mxH_of (sh:=.k) (enc:=Range_e) (hB:=Range_b) (a:=(Range_x L p lo hi).an) (Range_p L p lo hi ok) (by kernel_rfl),fnB_ok (by kernel_rfl),HcOk.of (by simp[hcB,belBL,AV.belB,allB,okBk,okBkO,Range_e,Range_b,pureBL_map (v:=AV.int) (λ_=>rfl)])⟩
def pickI(l:List Int)(r:Int):Int:=l.getD (Mod r l.length).toNat 0
def Pick_a(L:(List Int))(p:Nat)(l:(List Int)):Prop:=okL [.ref 0 0,.sl 1 (l.map AV.int) false]∧(.box (.agg [.sl 1 (L.map AV.int) false,.int ((p:Nat):Int)]):Blk).ok
def Pick_e(r:Tap×Int):AV:=.int r.2
def Pick_b(r:Tap×Int):List (Option Blk):=[some (.box (.agg [.sl 1 (r.1.L.map AV.int) false,.int ((r.1.p:Nat):Int)]))]
def Pick_x(L:(List Int))(p:Nat)(l:(List Int)):Ax Tryd.prog noS (Tap×Int):=
 (.callH [0] (N_h L p ((l.map AV.int).length:Int)) 81
(.el 97 AV.int l (λR=>Rf (l.map AV.int) (ck (decide (0≤(Mod (rawV L p) ((l.map AV.int).length:Int)))) (ck (decide ((Mod (rawV L p) ((l.map AV.int).length:Int))<(l.length:Int)))
(∀x1,l[(Mod (rawV L p) ((l.map AV.int).length:Int)).toNat]?=some x1 →
(R x1))))) λx1 =>
(.retH ((⟨L,rawP L p⟩:Tap),x1) ⟨[(4,.k,.int x1)],[.box (.agg [.sl 1 (L.map AV.int) false,.int (((rawP L p):Nat):Int)])]⟩ [0])))
def Pick_vc(L:(List Int))(p:Nat)(l:(List Int))(r0:Tap×Int):Prop:=(Pick_x L p l).vc Pick_e Pick_b r0
theorem Pick_p(L:List Int)(p:Nat)(l:List Int)(hl:l≠[])(ok:Pick_a L p l):Pick_vc L p l (⟨L,rawP L p⟩,pickI l (rawV L p)):=by
 have hl:0<l.length:=List.length_pos_iff.mpr hl
 have hm:=Mod_range (x:=rawV L p) (show 1≤(l.length:Int) by omega)
 dsimp only[Pick_vc,Pick_x,noS,Ax.vp,Ax.vc];simp only[vcU,rfU,List.length_map]
 refine⟨by omega,by omega,λx hx=>?_⟩
 rw[pickI,List.getD_eq_getElem?_getD,hx];rfl
def Pick_h(L:(List Int))(p:Nat)(l:(List Int))(hl:l≠[]):HC Tryd.prog:=⟨36,[.k,(.s 1)],[.ref 0 0,.sl 1 (l.map AV.int) false],[.box (.agg [.sl 1 (L.map AV.int) false,.int ((p:Nat):Int)])],Pick_e ((⟨L,rawP L p⟩,pickI l (rawV L p)):Tap×Int),Pick_b ((⟨L,rawP L p⟩,pickI l (rawV L p)):Tap×Int),HSpec.of_okh λok ok2=>have ok:Pick_a L p l:=⟨ok,ok2 _ (by simp)⟩;mxH_of (sh:=.k) (enc:=Pick_e) (hB:=Pick_b) (a:=(Pick_x L p l).an) (Pick_p L p l hl ok) (by kernel_rfl),fnB_ok (by kernel_rfl),HcOk.of (by simp[hcB,belBL,AV.belB,allB,okBk,okBkO,Pick_e,Pick_b,pureBL_map (v:=AV.int) (λ_=>rfl)])⟩
def New_a(t:(List Int)):Prop:=okL [.sl 1 (t.map AV.int) false]
def New_e(r:Tap):AV:=.ref 0 0
def New_b(r:Tap):List (Option Blk):=[some (.box (.agg [.sl 1 (r.L.map AV.int) false,.int ((r.p:Nat):Int)]))]
def New_x(t:(List Int)):Ax Tryd.prog noS (Tap):=
 (.say (λR=>Rf (α:=List AV) (t.map AV.int) (ck (bndB t.length 0 (minI ((t.map AV.int).length:Int) 2000) (t.length:Int))
R)) (.sub 80 AV.int t false
(.retH (⟨(t.take ((minI ((t.map AV.int).length:Int) 2000).toNat)).drop 0,0⟩:Tap) ⟨[(2,.k,.ref 0 0)],[.box (.agg [.sl 1 (((t.take ((minI ((t.map AV.int).length:Int) 2000).toNat)).drop 0).map AV.int) false,.int 0])]⟩ [112])))
def New_vc(t:(List Int))(r0:Tap):Prop:=(New_x t).vc New_e New_b r0
theorem New_p(t:List Int)(ok:New_a t):New_vc t ⟨t.take 2000,0⟩:=by
 simp only[New_a,okU,Blk.ok,plainV,List.length_map]at ok
 dsimp only[New_vc,New_x,noS,Ax.vp,Ax.vc];simp only[vcU,rfU,List.length_map]
 have hm:minI (t.length:Int) 2000=((min t.length 2000:Nat):Int):=by unfold minI;split<;>omega
 rw[hm]
 refine⟨by simp[bndB];omega,?_⟩
 rw[Int.toNat_natCast,List.drop_zero]
 congr 1
 rcases Nat.le_total t.length 2000 with h|h
 ·rw[Nat.min_eq_left h,List.take_of_length_le (Nat.le_refl _),List.take_of_length_le h]
 ·rw[Nat.min_eq_right h]
def New_h(t:(List Int)):HC Tryd.prog:=⟨6,[(.s 1)],[.sl 1 (t.map AV.int) false],[],New_e (⟨t.take 2000,0⟩:Tap),New_b (⟨t.take 2000,0⟩:Tap),HSpec.of_okh λok _=>mxH_of (sh:=.k) (enc:=New_e) (hB:=New_b) (a:=(New_x t).an) (New_p t ok) (by kernel_rfl),fnB_ok (by kernel_rfl),HcOk.of (by simp[hcB,belBL,AV.belB,allB,okBk,okBkO,New_e,New_b,pureBL_map (v:=AV.int) (λ_=>rfl)])⟩
def ascI(l:List Int):Prop:=∀i,i<l.length-1→l.getD i 0<l.getD (i+1) 0
instance (l:List Int):Decidable (ascI l):=by unfold ascI;infer_instance
def rngI(l:List Int):Prop:=∀s∈l,1≤s∧s≤99
instance (l:List Int):Decidable (rngI l):=by unfold rngI;infer_instance
def fltErr(m:Int)(l:List Int):Int:=if ¬(m=1∨m=2)then 1 else if ¬rngI l then 2 else if ¬ascI l then 25 else 0
theorem getD_get{l:List Int}{i:Nat}(h:i<l.length):l.getD i 0=l[i]:=by
 simp[List.getD_eq_getElem?_getD,List.getElem?_eq_getElem h]
theorem W_succ{k n:Nat}(h:k<n)(hn:n≤9223372036854775807):W ((k:Int)+1)=((k+1:Nat):Int):=by rw[W_eq (by omega)];omega
theorem W_pred{k:Nat}(h:k≤9223372036854775807)(h1:1≤k):W ((k:Int)-1)=((k-1:Nat):Int):=by rw[W_eq (by omega)];omega
def insAt{α:Type}(es:List α)(i:Nat)(x:α):List α:=es.take i++[x]++es.drop i
theorem pickI_mem{l:List Int}(h:l≠[])(r:Int):pickI l r∈l:=by
 have hl:0<l.length:=List.length_pos_iff.mpr h
 have:=Mod_range (x:=r) (show 1≤(l.length:Int) by omega)
 have hi:(Mod r l.length).toNat<l.length:=by omega
 rw[pickI,getD_get hi]
 exact List.getElem_mem hi
theorem rng_in{L:List Int}{p:Nat}{lo hi:Int}(h:-1000000000≤lo∧lo≤hi∧hi≤1000000000):lo≤rng L p lo hi∧rng L p lo hi≤hi:=by
 unfold rng
 have e1:W (hi-lo)=hi-lo:=W_eq (by omega)
 have e2:W (hi-lo+1)=hi-lo+1:=W_eq (by omega)
 rw[e1,e2]
 have:=Mod_range (x:=rawV L p) (show 1≤hi-lo+1 by omega)
 rw[W_eq (by omega)];omega
def putP(l:List Int)(x:Int):Nat:=l.findIdx (λy=>!decide (y<x))
def put(l:List Int)(x:Int):List Int:=if l[putP l x]?=some x then l else insAt l (putP l x) x
structure Rtr where
  id:Int
  cap:Bool
  deriving DecidableEq
structure Lnk where
  a:Int
  b:Int
  ca:Int
  cb:Int
  w:Int
  deriving DecidableEq
structure Tpl where
  rs:List Rtr
  ls:List Lnk
  deriving DecidableEq
def Rtr.v(x:Rtr):AV:=.agg [.int x.id,.bool x.cap]
def Lnk.v(x:Lnk):AV:=.agg [.int x.a,.int x.b,.int x.ca,.int x.cb,.int x.w]
def G(rows:List (List Bool))(h:Hp):Hp:=λb=>if 1000≤b∧b<2000 then(rows[b-1000]?).map (λr=>Blk.vec 1 (r.map AV.bool))else h b
def F(i:Nat):Nat:=1000+i
def names(n:Nat):List AV:=(List.range n).map λi=>.vec (F i)
theorem G_lo{rows:List (List Bool)}{h:Hp}{b:Nat}(hb:b<1000):G rows h b=h b:=if_neg (by omega)
theorem G_F{rows:List (List Bool)}{h:Hp}{i:Nat}{r:List Bool}(hr:rows[i]?=some r)(hl:rows.length≤1000):G rows h (F i)=some (.vec 1 (r.map AV.bool)):=by
 have:i<rows.length:=(List.getElem?_eq_some_iff.mp hr).1
 unfold G F
 rw[if_pos (by omega),show 1000+i-1000=i by omega,hr];rfl
theorem F_lo{i b:Nat}(hb:b<1000):(F i=b)=False:=by unfold F;simp;omega
theorem F_lo'{i b:Nat}(hb:b<1000):(b=F i)=False:=by unfold F;simp;omega
theorem names_get{n i:Nat}(h:i<n):(names n)[i]?=some (.vec (F i)):=by simp[names,h]
theorem names_len(n:Nat):(names n).length=n:=by simp[names]
def famPi(bs fs:Nat→Nat)(b:Nat):Nat:=if 1000≤b∧b<2000 then fs (b-1000)else bs b
theorem famPi_F{bs fs:Nat→Nat}{i:Nat}(h:i<1000):famPi bs fs (F i)=fs i:=by unfold famPi F;rw[if_pos (by omega),show 1000+i-1000=i by omega]
theorem famPi_lo{bs fs:Nat→Nat}{b:Nat}(h:b<1000):famPi bs fs b=bs b:=if_neg (by omega)
theorem pureL_bool(r:List Bool):pureL (r.map AV.bool):=pureBL_ok (pureBL_map (λ_=>rfl) r)
theorem Weak.nfG{k n:Nat}{tm:Nat→AV}{hp:Hp}{nx:Nat}(rows:List (List Bool))(ts:List (Nat×AV))(hs:List (Option Blk))(bs fs:Nat→Nat)
    (hT:∀p∈ts,tm p.1=p.2.ren (famPi bs fs)∧p.2.bel 2000) (hH:∀i x,hs[i]?=some (some x)→hp (bs i)=some (x.ren (famPi bs fs))∧x.bel 2000)
    (hl:hs.length≤1000) (hr:rows.length≤1000) (hR:∀i r,rows[i]?=some r→hp (fs i)=some (.vec 1 (r.map AV.bool)))
    (h1:∀i j,i<hs.length→j<hs.length→bs i=bs j→i=j) (h2:∀i j,i<rows.length→j<rows.length→fs i=fs j→i=j) (h3:∀i j,i<hs.length→j<rows.length→bs i≠fs j)
    (hk:∀b,b<k→bs b=b) (hkl:k≤1000):Weak k n ⟨tm,hp,nx⟩ ⟨resT ts,G rows (hpL 0 hs),2000⟩:=by
  have low:∀{b x},hpL 0 hs b=some x→hs[b]?=some (some x):=λ{b x} e=>by
    rw[hpL_eq,if_pos (Nat.zero_le _),Nat.sub_zero]at e
    cases e':hs[b]? with
    | none=>rw[e']at e;cases e
    | some y=>rw[e']at e;exact congrArg some e
  have cls:∀{b x},G rows (hpL 0 hs) b=some x→(∃i r,b=F i∧i<rows.length∧rows[i]?=some r∧x=.vec 1 (r.map AV.bool))∨(b<hs.length∧hs[b]?=some (some x)):=λ{b x} e=>by
    unfold G at e
    split at e
    · rename_i hb
      obtain⟨r,hr,rfl⟩:=Option.map_eq_some_iff.mp e
      exact .inl ⟨b-1000,r,by unfold F;omega,(List.getElem?_eq_some_iff.mp hr).1,hr,rfl⟩
    · have:=low e
      exact .inr ⟨(List.getElem?_eq_some_iff.mp this).1,this⟩
  refine Weak.ren (famPi bs fs) (λt=>?_) (λb x e=>?_) (λb b' e e' he=>?_) (λb hb=>?_) (by show k≤2000;omega)
  · show resT ts t=.unk∨(tm t=(resT ts t).ren _∧(resT ts t).bel 2000)
    clear hH hR h1 h2 h3 cls low hl
    induction ts with
    | nil=>exact .inl rfl
    | cons p l ih =>
      obtain⟨t',x⟩:=p
      by_cases ht:t=t'
      · subst ht
        have:=hT (t,x) (by simp)
        simp only[resT,↓reduceIte]
        exact .inr this
      · have:=ih (λp hp=>hT p (by simp[hp]))
        simp only[resT,if_neg ht]
        exact this
  · show b<2000∧hp (famPi bs fs b)=some (x.ren (famPi bs fs))∧x.bel 2000
    rcases cls e with⟨i,r,rfl,hi,hr',rfl⟩|⟨hb,e⟩
    · refine⟨by unfold F;omega,?_,belL_pure (pureL_bool r)⟩
      rw[famPi_F (by omega),hR i r hr',Blk.ren,renL_pure _ (pureL_bool r)]
    · obtain⟨g1,g2⟩:=hH b x e
      exact⟨by omega,by rw[famPi_lo (by omega)];exact g1,g2⟩
  · have c1:(∃i,b=F i∧i<rows.length)∨b<hs.length:=by
      cases q:G rows (hpL 0 hs) b with
      | none=>exact absurd q e
      | some x => rcases cls q with ⟨i, r, g1, g2, _⟩ | ⟨g, _⟩
                  · exact .inl ⟨i,g1,g2⟩
                  · exact .inr g
    have c2:(∃i,b'=F i∧i<rows.length)∨b'<hs.length:=by
      cases q:G rows (hpL 0 hs) b' with
      | none=>exact absurd q e'
      | some x => rcases cls q with ⟨i, r, g1, g2, _⟩ | ⟨g, _⟩
                  · exact .inl ⟨i,g1,g2⟩
                  · exact .inr g
    rcases c1 with⟨i,rfl,hi⟩|hb<;>rcases c2 with⟨j,rfl,hj⟩|hb'
    · rw[famPi_F (by omega),famPi_F (by omega)]at he
      rw[h2 i j hi hj he]
    · rw[famPi_F (by omega),famPi_lo (by omega)]at he
      exact absurd he.symm (h3 b' i hb' hi)
    · rw[famPi_lo (by omega),famPi_F (by omega)]at he
      exact absurd he (h3 b j hb hj)
    · rw[famPi_lo (by omega),famPi_lo (by omega)]at he
      exact h1 b b' hb hb' he
  · rw[famPi_lo (by omega)];exact hk b hb
def mset(M:List (List Bool))(x y:Nat):List (List Bool):=M.set x ((M.getD x []).set y true)
def lk1(L:List Int):Nat→Nat→Nat→List (List Bool)→List (List Bool)×Nat
 | 0,i,p,M=>(M,p)
 | m+1,i,p,M=>if Mod (rawV L p) 12<11 then lk1 L m (i+1) (rawP L (rawP L p)) (mset M (Mod (rawV L (rawP L p)) i).toNat i)else lk1 L m (i+1) (rawP L p) M
def lk2(L:List Int)(n:Nat):Nat→Nat→List (List Bool)→List (List Bool)×Nat
 | 0,p,M=>(M,p)
 | m+1,p,M =>
  if Mod (rawV L p) n=Mod (rawV L (rawP L p)) n then lk2 L n m (rawP L (rawP L p)) M
  else lk2 L n m (rawP L (rawP L p)) (mset M (min (Mod (rawV L p) n) (Mod (rawV L (rawP L p)) n)).toNat (max (Mod (rawV L p) n) (Mod (rawV L (rawP L p)) n)).toNat)
def Sq(n:Nat)(M:List (List Bool)):Prop:=M.length=n∧∀r∈M,r.length=n
theorem Sq.get{n:Nat}{M:List (List Bool)}(h:Sq n M){x:Nat}(hx:x<n):∃r,M[x]?=some r∧r.length=n∧M.getD x []=r:=by
 have hx:x<M.length:=by rw[h.1];exact hx
 exact⟨M[x],List.getElem?_eq_getElem hx,h.2 _ (List.getElem_mem hx),by simp[List.getD,List.getElem?_eq_getElem hx]⟩
theorem Sq.set{n:Nat}{M:List (List Bool)}(h:Sq n M)(x y:Nat):Sq n (mset M x y):=by
 refine⟨by simp[mset,h.1],λr hr=>?_⟩
 by_cases hx:x<n
 ·obtain⟨r0,g1,g2,g3⟩:=h.get hx
  rcases List.mem_or_eq_of_mem_set hr with hr|rfl
  ·exact h.2 r hr
  ·rw[g3];simpa using g2
 ·have:mset M x y=M:=List.set_eq_of_length_le (by rw[h.1];omega)
  rw[this]at hr;exact h.2 r hr
theorem lk1_sq{L:List Int}{n:Nat}:∀{m i p:Nat} {M:List (List Bool)},Sq n M→Sq n (lk1 L m i p M).1
 | 0,_,_,_,h=>h
 | m+1,i,p,M,h=>by
  rw[lk1];split
  ·exact lk1_sq (h.set _ _)
  ·exact lk1_sq h
theorem lk2_sq{L:List Int}{n k:Nat}:∀{m p:Nat} {M:List (List Bool)},Sq n M→Sq n (lk2 L k m p M).1
 | 0,_,_,h=>h
 | m+1,p,M,h=>by
  rw[lk2];split
  ·exact lk2_sq h
  ·exact lk2_sq (h.set _ _)
def sq0(n:Nat):List (List Bool):=List.replicate n (List.replicate n false)
theorem sq0_sq(n:Nat):Sq n (sq0 n):=⟨by simp[sq0],λr hr=>by rw[(List.mem_replicate.mp hr).2];simp⟩
section
variable {α : Type} {l : List α} {P : α → Prop} {R : α → α → Prop} {t : Int} {x y : α}
theorem range2{i n:Int}(h1:0≤i)(h2:i<n):(bif decide (0≤i)then decide (i<n)else false)=true:=by
 rw[decide_eq_true h1,decide_eq_true h2];rfl
def ForI(l:List α)(P:α→Prop)(t:Int):Prop:=∃k:Nat,t=k∧k≤l.length∧∀x∈l.take k,P x
theorem ForI.zero:ForI l P 0:=⟨0,rfl,by omega,by simp⟩
theorem ForI.idx(h:ForI l P t):0≤t:=by obtain⟨k,rfl,_,_⟩:=h;omega
theorem ForI.step(h:ForI l P t)(hl:l.length≤9223372036854775807)(hx:l[t.toNat]?=some x)(p:P x):ForI l P (W (t+1))∧l.length-(W (t+1)).toNat<l.length-t.toNat:=by
 obtain⟨k,rfl,hk,ha⟩:=h
 rw[Int.toNat_natCast]at hx
 have:=lt_of_get hx
 rw[W_succ (n:=l.length) this hl]
 refine⟨⟨k+1,rfl,by omega,λz hz=>?_⟩,by omega⟩
 rw[take_succ hx]at hz
 rcases List.mem_append.mp hz with hz|hz
 ·exact ha z hz
 ·rw[List.mem_singleton]at hz;exact hz ▸ p
theorem ForI.done(h:ForI l P t)(c:¬t<l.length):∀x∈l,P x:=by
 obtain⟨k,rfl,hk,ha⟩:=h
 rw[List.take_of_length_le (by omega)]at ha
 exact ha
theorem at_mem(hx:l[t.toNat]?=some x):x∈l:=mem_of_get hx
def ForA(l:List α)(R:α→α→Prop)(t:Int):Prop:=∃k:Nat,t=k∧1≤k∧k≤l.length+1∧∀j x y,j+1<k→l[j]?=some x→l[j+1]?=some y→R x y
theorem ForA.one:ForA l R 1:=⟨1,rfl,by omega,by omega,λj x y h=>by omega⟩
theorem ForA.idx(h:ForA l R t)(hl:l.length≤9223372036854775807)(c:t<l.length):(0≤W (t-1)∧W (t-1)<l.length)∧0≤t:=by
 obtain⟨k,rfl,h1,hk,ha⟩:=h
 rw[W_pred (by omega) h1]
 omega
theorem ForA.step(h:ForA l R t)(hl:l.length≤9223372036854775807)(hx:l[(W (t-1)).toNat]?=some x)(hy:l[t.toNat]?=some y)(p:R x y):ForA l R (W (t+1))∧l.length+1-(W (t+1)).toNat<l.length+1-t.toNat:=by
 obtain⟨k,rfl,h1,hk,ha⟩:=h
 rw[Int.toNat_natCast]at hy
 have hlt:=lt_of_get hy
 rw[W_pred (by omega) h1,Int.toNat_natCast]at hx
 rw[W_succ (n:=l.length) hlt (by omega)]
 refine⟨⟨k+1,rfl,by omega,by omega,λj x' y' hj hx' hy'=>?_⟩,by omega⟩
 by_cases e:j+1=k
 ·subst e
  rw[show j+1-1=j by omega,hx']at hx;cases hx
  rw[hy']at hy;cases hy;exact p
 ·exact ha j x' y' (by omega) hx' hy'
theorem ForA.bad(h:ForA l R t)(hl:l.length≤9223372036854775807)(hx:l[(W (t-1)).toNat]?=some x)(hy:l[t.toNat]?=some y){S:α→α→Prop}(p:¬S x y):¬l.Pairwise S:=by
 obtain⟨k,rfl,h1,hk,ha⟩:=h
 rw[Int.toNat_natCast]at hy
 have hlt:=lt_of_get hy
 rw[W_pred (by omega) h1,Int.toNat_natCast]at hx
 intro hp
 rw[List.pairwise_iff_getElem]at hp
 have:=hp (k-1) k (by omega) hlt (by omega)
 rw[List.getElem?_eq_getElem (by omega)]at hx hy
 rw[Option.some.inj hx,Option.some.inj hy]at this
 exact p this
theorem ForA.done(h:ForA l R t)(c:¬t<l.length)(tr:∀x y z,R x y→R y z→R x z):l.Pairwise R:=by
 obtain⟨k,rfl,h1,hk,ha⟩:=h
 rw[List.pairwise_iff_getElem]
 have key:∀d i,(hi:i+d+1<l.length)→R (l[i]'(by omega)) l[i+d+1]:=by
  intro d
  induction d with
  | zero=>intro i hi;exact ha i _ _ (by omega) (List.getElem?_eq_getElem (by omega)) (List.getElem?_eq_getElem hi)
  | succ d ih =>
   intro i hi
   exact tr _ _ _ (ih i (by omega)) (ha (i+d+1) _ _ (by omega) (List.getElem?_eq_getElem (by omega)) (List.getElem?_eq_getElem hi))
 intro i j hi hj hij
 have:=key (j-i-1) i (by omega)
 simp only[show i+(j-i-1)+1=j by omega]at this
 exact this
def ForG{σ:Type}(l:List α)(g:σ→α→σ)(s0:σ)(t:Int)(s:σ):Prop:=∃k:Nat,t=k∧k≤l.length∧s=(l.take k).foldl g s0
section
variable {σ : Type} {g : σ → α → σ} {s0 s : σ}
theorem ForG.zero:ForG l g s0 0 s0:=⟨0,rfl,by omega,rfl⟩
theorem ForG.idx(h:ForG l g s0 t s):0≤t:=by obtain⟨k,rfl,_,_⟩:=h;omega
theorem ForG.step(h:ForG l g s0 t s)(hl:l.length≤9223372036854775807)(hx:l[t.toNat]?=some x){s':σ}(p:s'=g s x):ForG l g s0 (W (t+1)) s'∧l.length-(W (t+1)).toNat<l.length-t.toNat:=by
 obtain⟨k,rfl,hk,rfl⟩:=h
 rw[Int.toNat_natCast]at hx
 have:=lt_of_get hx
 rw[W_succ (n:=l.length) this hl]
 exact⟨⟨k+1,rfl,by omega,by rw[take_succ hx,List.foldl_append,p];rfl⟩,by omega⟩
theorem ForG.len(h:ForG l g s0 t s){f:σ→Nat}{a b:Nat}(h0:f s0≤a)(hs:∀s x,x∈l→f (g s x)≤f s+b):f s≤a+b * t.toNat:=by
 obtain⟨k,rfl,hk,rfl⟩:=h
 rw[Int.toNat_natCast]
 induction k with
 | zero=>simpa using h0
 | succ k ih =>
  rw[take_succ (List.getElem?_eq_getElem (show k<l.length by omega)),List.foldl_append,List.foldl_cons,List.foldl_nil,Nat.mul_succ]
  have:=hs ((l.take k).foldl g s0) l[k] (List.getElem_mem _)
  have:=ih (by omega)
  omega
theorem ForG.done(h:ForG l g s0 t s)(c:¬t<l.length):s=l.foldl g s0:=by
 obtain⟨k,rfl,hk,rfl⟩:=h
 rw[List.take_of_length_le (by omega)]
end
def ForX{β:Type}(l:List α)(f:α→List β)(t:Int)(out:List β):Prop:=∃k:Nat,t=k∧k≤l.length∧out=(l.take k).flatMap f
section
variable {β : Type} {f : α → List β} {out : List β}
theorem ForX.zero:ForX l f 0 []:=⟨0,rfl,by omega,rfl⟩
theorem ForX.idx(h:ForX l f t out):0≤t:=by obtain⟨k,rfl,_,_⟩:=h;omega
theorem ForX.step(h:ForX l f t out)(hl:l.length≤9223372036854775807)(hx:l[t.toNat]?=some x){out':List β}(p:out'=out++f x):ForX l f (W (t+1)) out'∧l.length-(W (t+1)).toNat<l.length-t.toNat:=by
 obtain⟨k,rfl,hk,rfl⟩:=h
 rw[Int.toNat_natCast]at hx
 have:=lt_of_get hx
 rw[W_succ (n:=l.length) this hl]
 exact⟨⟨k+1,rfl,by omega,by rw[take_succ hx,List.flatMap_append,p];simp⟩,by omega⟩
theorem ForX.done(h:ForX l f t out)(c:¬t<l.length):out=l.flatMap f:=by
 obtain⟨k,rfl,hk,rfl⟩:=h
 rw[List.take_of_length_le (by omega)]
theorem ForX.len(h:ForX l f t out){b:Nat}(hb:∀x∈l,(f x).length≤b):out.length≤l.length * b:=by
 obtain⟨k,rfl,hk,rfl⟩:=h
 have key:∀m:List α,(∀x∈m,(f x).length≤b)→(m.flatMap f).length≤m.length * b:=by
  intro m
  induction m with
  | nil=>intro _;simp
  | cons x m ih =>
   intro hm
   have h1:=hm x (by simp)
   have h2:=ih λy hy=>hm y (by simp[hy])
   rw[List.flatMap_cons,List.length_append,List.length_cons,Nat.succ_mul];omega
 refine Nat.le_trans (key _ λx hx=>hb x (List.mem_of_mem_take hx)) (Nat.mul_le_mul_right _ ?_)
 rw[List.length_take];omega
end
theorem flatMap_if{p:α→Bool}{l:List α}:(l.flatMap λx=>if p x=true then [x]else [])=l.filter p:=by
 induction l with
 | nil=>rfl
 | cons x l ih =>
  rw[List.flatMap_cons,ih,List.filter_cons]
  split<;>rfl
def idxF(p:α→Bool)(l:List α):Int:=if l.any p=true then((l.findIdx p:Nat):Int)else -1
theorem ForI.found{p:α→Bool}(h:ForI l (λy=>p y=false) t)(hx:l[t.toNat]?=some x)(hp:p x=true):t=idxF p l:=by
 obtain⟨k,rfl,hk,ha⟩:=h
 rw[Int.toNat_natCast]at hx
 rw[idxF,if_pos (List.any_eq_true.mpr ⟨x,mem_of_get hx,hp⟩)]
 have:l.findIdx p=k:=by
  have hlt:=lt_of_get hx
  rw[List.getElem?_eq_getElem hlt]at hx
  have hx:=Option.some.inj hx
  rw[List.findIdx_eq hlt]
  refine⟨by rw[hx];exact hp,λj hj=>?_⟩
  exact ha _ (List.mem_take_iff_getElem.mpr ⟨j,by omega,rfl⟩)
 rw[this]
end
theorem fi_find{α:Type}{l:List α}{t:Int}{x:α}{p:α→Bool}(h:ForI l (λy=>p y=false) t)(hx:l[t.toNat]?=some x)(hp:p x=true):l.find? p=some x:=by
 obtain⟨k,rfl,hk,ha⟩:=h
 rw[Int.toNat_natCast]at hx
 rw[List.find?_eq_some_iff_getElem]
 have hlt:=lt_of_get hx
 refine⟨hp,k,hlt,by rw[List.getElem?_eq_getElem hlt]at hx;exact Option.some.inj hx,λj hj=>?_⟩
 rw[ha _ (List.mem_take_iff_getElem.mpr ⟨j,by omega,rfl⟩)];rfl
theorem fi_none{α:Type}{l:List α}{t:Int}{p:α→Bool}(h:ForI l (λy=>p y=false) t)(c:¬t<l.length):l.find? p=none:=by
 rw[List.find?_eq_none]
 exact λx hx=>by rw[h.done c x hx];simp
def cst5(n:Int):Bool:=decide (1≤n) && decide (n≤1000)
def cst5_a(n:Int):Prop:=okL [.int n]
def cst5_e(r:Bool):AV:=.bool r
def cst5_x(n:Int):Ax Tryd.prog noS (Bool):=
 (.br 64 (decide (1≤n)) (.ret (decide (n≤1000)))
(.ret (false)))
def cst5_vc(n:Int)(r0:Bool):Prop:=(cst5_x n).vp cst5_e r0
theorem cst5_p(n:Int)(ok:cst5_a n):cst5_vc n (cst5 n):=by
 dsimp only[cst5_vc,cst5_x,noS,Ax.vp,Ax.vc];simp only[vcU,rfU,List.length_map]
 refine⟨λc=>?_,λc=>?_⟩<;>simp[cst5,c]
def cst5_c(n:Int):PC Tryd.prog:=⟨74,[.k],[.int n],cst5_e (cst5 n),PSpec.of_ok λok=>mxP_of (sh:=.k) (enc:=cst5_e) (a:=(cst5_x n).an) (cst5_p n ok) (by kernel_rfl) (AV.pureB_ok rfl),fnB_ok (by kernel_rfl)⟩
def has5(t:Tpl)(r:Int):Bool:=t.rs.any λx=>x.id==r
def has5_a(t:Tpl)(r:Int):Prop:=okL [.agg [.sl 2 (t.rs.map Rtr.v) false,.sl 5 (t.ls.map Lnk.v) false],.int r]
def has5_n0(t:Tpl)(r:Int)(t0:Int):NF:=⟨[(1,.k,.int r),(2,.k,.ref 0 0),(5,.k,.int t0)],[.box (.agg [.sl 2 (t.rs.map Rtr.v) false,.sl 5 (t.ls.map Lnk.v) false])]⟩
@[reducible] def has5_s:Nat→Type
 | 0=>Int
 | _=>Unit
def has5_e(r:Bool):AV:=.bool r
def has5_x(t:Tpl)(r:Int)(I0:Int→Prop)(m0:Int→Nat):Ax Tryd.prog has5_s (Bool):=
 (.loop 0 (has5_n0 t r) I0 m0 ((0):Int) [0] λ(t0:Int) b0 =>
(.br 81 (decide (t0<((t.rs.map Rtr.v).length:Int))) (.el 129 Rtr.v t.rs (λR=>Rf (t.rs.map Rtr.v) (ck (decide (0≤t0)) (ck (decide (t0<(t.rs.length:Int)))
(∀x1,t.rs[t0.toNat]?=some x1 →
(R x1))))) λx1 =>
(.br 209 (x1.id==r) (.ret (true))
(.bk 0 b0 ((W (t0+1)):Int) [0])))
(.ret (false))))
def has5_vc(t:Tpl)(r:Int)(I0:Int→Prop)(m0:Int→Nat)(r0:Bool):Prop:=(has5_x t r I0 m0).vp has5_e r0
theorem has5_p(t:Tpl)(r:Int)(ok:has5_a t r):∃I m,has5_vc t r I m (has5 t r):=by
 refine⟨λi=>ForI t.rs (λx=>(x.id==r)=false) i,λi=>t.rs.length-i.toNat,?_⟩
 simp only[has5_a,okU,Blk.ok,plainV,List.length_map]at ok
 dsimp only[has5_vc,has5_x,has5_s,Ax.vp,Ax.vc];simp only[vcU,rfU,List.length_map]
 refine⟨ForI.zero,λi h=>⟨λc=>⟨h.idx,c,λx hx=>⟨λq=>?_,λq=>h.step (by omega) hx q⟩⟩,λc=>?_⟩⟩
 ·exact(List.any_eq_true.mpr ⟨x,at_mem hx,q⟩).symm
 ·exact(List.any_eq_false.mpr λx hx=>by rw[h.done c x hx];simp).symm
def has5_c(t:Tpl)(r:Int):PC Tryd.prog:=⟨75,[(.a [(.s 2),(.s 5)]),.k],[.agg [.sl 2 (t.rs.map Rtr.v) false,.sl 5 (t.ls.map Lnk.v) false],.int r],has5_e (has5 t r),PSpec.of_ok λok=>(has5_p t r ok).elim λI0 h=>h.elim λm0 h=>mxP_of (sh:=.k) (enc:=has5_e) (a:=(has5_x t r I0 m0).an) h (by kernel_rfl) (AV.pureB_ok rfl),fnB_ok (by kernel_rfl)⟩
def lnkR(l:Lnk):Prop:=cst5 l.ca=true∧cst5 l.cb=true∧0≤l.w∧l.w≤1000
instance (l:Lnk):Decidable (lnkR l):=by unfold lnkR;infer_instance
def lnkL(x y:Lnk):Prop:=x.a<y.a∨x.a=y.a∧x.b<y.b
instance (x y:Lnk):Decidable (lnkL x y):=by unfold lnkL;infer_instance
def chk5(t:Tpl):Int:=
 if 24<t.rs.length∨60<t.ls.length then 3
 else if ¬∀x∈t.rs,1≤x.id∧x.id≤99 then 2
 else if ¬t.rs.Pairwise (λx y=>x.id<y.id)then 25
 else if ¬∀l∈t.ls,lnkR l then 2
 else if ¬∀l∈t.ls,has5 t l.a=true∧has5 t l.b=true then 4
 else if ¬∀l∈t.ls,l.a<l.b then 8
 else if ¬t.ls.Pairwise lnkL then 25 else 0
def chk5_a(t:Tpl):Prop:=okL [.agg [.sl 2 (t.rs.map Rtr.v) false,.sl 5 (t.ls.map Lnk.v) false]]
def chk5_n0(t:Tpl)(t0:Bool):NF:=⟨[(1,.k,.ref 0 0),(21,.k,.bool t0)],[.box (.agg [.sl 2 (t.rs.map Rtr.v) false,.sl 5 (t.ls.map Lnk.v) false])]⟩
def chk5_n1(t:Tpl)(t1:Int):NF:=⟨[(1,.k,.ref 0 0),(3,.k,.int t1)],[.box (.agg [.sl 2 (t.rs.map Rtr.v) false,.sl 5 (t.ls.map Lnk.v) false])]⟩
def chk5_n2(t:Tpl)(t1:Int)(t2:Bool):NF:=⟨[(1,.k,.ref 0 0),(3,.k,.int t1),(44,.k,.bool t2)],[.box (.agg [.sl 2 (t.rs.map Rtr.v) false,.sl 5 (t.ls.map Lnk.v) false])]⟩
def chk5_n3(t:Tpl)(t3:Int):NF:=⟨[(1,.k,.ref 0 0),(4,.k,.int t3)],[.box (.agg [.sl 2 (t.rs.map Rtr.v) false,.sl 5 (t.ls.map Lnk.v) false])]⟩
def chk5_n4(t:Tpl)(t4:Int):NF:=⟨[(1,.k,.ref 0 0),(5,.k,.int t4)],[.box (.agg [.sl 2 (t.rs.map Rtr.v) false,.sl 5 (t.ls.map Lnk.v) false])]⟩
def chk5_n5(t:Tpl)(t4:Int)(t5:Bool):NF:=⟨[(1,.k,.ref 0 0),(5,.k,.int t4),(97,.k,.bool t5)],[.box (.agg [.sl 2 (t.rs.map Rtr.v) false,.sl 5 (t.ls.map Lnk.v) false])]⟩
def chk5_n6(t:Tpl)(t6:Int):NF:=⟨[(1,.k,.ref 0 0),(7,.k,.int t6)],[.box (.agg [.sl 2 (t.rs.map Rtr.v) false,.sl 5 (t.ls.map Lnk.v) false])]⟩
def chk5_n7(t:Tpl)(t6:Int)(t7:Bool):NF:=⟨[(1,.k,.ref 0 0),(7,.k,.int t6),(124,.k,.bool t7)],[.box (.agg [.sl 2 (t.rs.map Rtr.v) false,.sl 5 (t.ls.map Lnk.v) false])]⟩
def chk5_n8(t:Tpl)(t8:Int):NF:=⟨[(1,.k,.ref 0 0),(8,.k,.int t8)],[.box (.agg [.sl 2 (t.rs.map Rtr.v) false,.sl 5 (t.ls.map Lnk.v) false])]⟩
def chk5_n9(t:Tpl)(t9:Int):NF:=⟨[(1,.k,.ref 0 0),(9,.k,.int t9)],[.box (.agg [.sl 2 (t.rs.map Rtr.v) false,.sl 5 (t.ls.map Lnk.v) false])]⟩
def chk5_n10(t:Tpl)(t9:Int)(t10:Bool):NF:=⟨[(1,.k,.ref 0 0),(9,.k,.int t9),(181,.k,.bool t10)],[.box (.agg [.sl 2 (t.rs.map Rtr.v) false,.sl 5 (t.ls.map Lnk.v) false])]⟩
@[reducible] def chk5_s:Nat→Type
 | 0=>Bool
 | 1=>Int
 | 2=>Bool
 | 3=>Int
 | 4=>Int
 | 5=>Bool
 | 6=>Int
 | 7=>Bool
 | 8=>Int
 | 9=>Int
 | 10=>Bool
 | _=>Unit
def chk5_e(r:Int):AV:=.int r
def chk5_x(t:Tpl)(I0:Bool→Prop)(I1:Bool→Int→Prop)(m1:Bool→Int→Nat)(I2:Bool→Int→Bool→Prop)(I3:Bool→Int→Int→Prop)(m3:Bool→Int→Int→Nat)(I4:Bool→Int→Int→Int→Prop)(m4:Bool→Int→Int→Int→Nat)(I5:Bool→Int→Int→Int→Lnk→Bool→Prop)(I6:Bool→Int→Int→Int→Int→Prop)(m6:Bool→Int→Int→Int→Int→Nat)(I7:Bool→Int→Int→Int→Int→Bool→Prop)(I8:Bool→Int→Int→Int→Int→Int→Prop)(m8:Bool→Int→Int→Int→Int→Int→Nat)(I9:Bool→Int→Int→Int→Int→Int→Int→Prop)(m9:Bool→Int→Int→Int→Int→Int→Int→Nat)(I10:Bool→Int→Int→Int→Int→Int→Int→Lnk→Lnk→Bool→Prop):Ax Tryd.prog chk5_s (Int):=
 (.pass (.pass (.join 0 (chk5_n0 t) (λ(t0:Bool)=>I0 t0) (λb0=>(.br 112 (decide (24<((t.rs.map Rtr.v).length:Int))) (.bk 0 b0 ((true):Bool) [0])
(.bk 0 b0 ((decide (60<((t.ls.map Lnk.v).length:Int))):Bool) [0]))) λ(t0:Bool) =>
(.br 1 t0 (.ret (3))
(.loop 1 (chk5_n1 t) (I1 t0) (m1 t0) ((0):Int) [0] λ(t1:Int) b1 =>
(.br 81 (decide (t1<((t.rs.map Rtr.v).length:Int))) (.pass (.join 2 (chk5_n2 t t1) (λ(t2:Bool)=>I2 t0 t1 t2) (λb2=>(.el 129 Rtr.v t.rs (λR=>Rf (t.rs.map Rtr.v) (ck (decide (0≤t1)) (ck (decide (t1<(t.rs.length:Int)))
(∀x1,t.rs[t1.toNat]?=some x1 →
(R x1))))) λx1 =>
(.br 209 (decide (x1.id<1)) (.bk 2 b2 ((true):Bool) [0])
(.el 257 Rtr.v t.rs (λR=>Rf (t.rs.map Rtr.v) (ck (decide (0≤t1)) (ck (decide (t1<(t.rs.length:Int)))
(∀x2,t.rs[t1.toNat]?=some x2 →
(R x2))))) λx2 =>
(.bk 2 b2 ((decide (99<x2.id)):Bool) [0]))))) λ(t2:Bool) =>
(.br 1 t2 (.ret (2))
(.bk 1 b1 ((W (t1+1)):Int) [0]))))
(.loop 3 (chk5_n3 t) (I3 t0 t1) (m3 t0 t1) ((1):Int) [0] λ(t3:Int) b3 =>
(.br 81 (decide (t3<((t.rs.map Rtr.v).length:Int))) (.el 145 Rtr.v t.rs (λR=>Rf (t.rs.map Rtr.v) (ck (decide (0≤(W (t3-1)))) (ck (decide ((W (t3-1))<(t.rs.length:Int)))
(∀x3,t.rs[(W (t3-1)).toNat]?=some x3 →
(R x3))))) λx3 =>
(.el 241 Rtr.v t.rs (λR=>Rf (t.rs.map Rtr.v) (ck (decide (0≤t3)) (ck (decide (t3<(t.rs.length:Int)))
(∀x4,t.rs[t3.toNat]?=some x4 →
(R x4))))) λx4 =>
(.br 305 (decide (x4.id≤x3.id)) (.ret (25))
(.bk 3 b3 ((W (t3+1)):Int) [0]))))
(.loop 4 (chk5_n4 t) (I4 t0 t1 t3) (m4 t0 t1 t3) ((0):Int) [0] λ(t4:Int) b4 =>
(.br 81 (decide (t4<((t.ls.map Lnk.v).length:Int))) (.el 129 Lnk.v t.ls (λR=>Rf (t.ls.map Lnk.v) (ck (decide (0≤t4)) (ck (decide (t4<(t.ls.length:Int)))
(∀x5,t.ls[t4.toNat]?=some x5 →
(R x5))))) λx5 =>
(.join 5 (chk5_n5 t t4) (λ(t5:Bool)=>I5 t0 t1 t3 t4 x5 t5) (λb5=>(.callP (cst5_c x5.ca)
(.br 273 (!(cst5 x5.ca)) (.bk 5 b5 ((true):Bool) [0])
(.callP (cst5_c x5.cb)
(.br 369 (!(cst5 x5.cb)) (.bk 5 b5 ((true):Bool) [0])
(.br 449 (decide (x5.w<0)) (.bk 5 b5 ((true):Bool) [0])
(.bk 5 b5 ((decide (1000<x5.w)):Bool) [0]))))))) λ(t5:Bool) =>
(.br 1 t5 (.ret (2))
(.bk 4 b4 ((W (t4+1)):Int) [0]))))
(.loop 6 (chk5_n6 t) (I6 t0 t1 t3 t4) (m6 t0 t1 t3 t4) ((0):Int) [0] λ(t6:Int) b6 =>
(.br 81 (decide (t6<((t.ls.map Lnk.v).length:Int))) (.pass (.join 7 (chk5_n7 t t6) (λ(t7:Bool)=>I7 t0 t1 t3 t4 t6 t7) (λb7=>(.el 145 Lnk.v t.ls (λR=>Rf (t.ls.map Lnk.v) (ck (decide (0≤t6)) (ck (decide (t6<(t.ls.length:Int)))
(∀x6,t.ls[t6.toNat]?=some x6 →
(R x6))))) λx6 =>
(.callP (has5_c t x6.a)
(.br 241 (!(has5 t x6.a)) (.bk 7 b7 ((true):Bool) [0])
(.el 305 Lnk.v t.ls (λR=>Rf (t.ls.map Lnk.v) (ck (decide (0≤t6)) (ck (decide (t6<(t.ls.length:Int)))
(∀x7,t.ls[t6.toNat]?=some x7 →
(R x7))))) λx7 =>
(.callP (has5_c t x7.b)
(.bk 7 b7 ((!(has5 t x7.b)):Bool) [0]))))))) λ(t7:Bool) =>
(.br 1 t7 (.ret (4))
(.bk 6 b6 ((W (t6+1)):Int) [0]))))
(.loop 8 (chk5_n8 t) (I8 t0 t1 t3 t4 t6) (m8 t0 t1 t3 t4 t6) ((0):Int) [0] λ(t8:Int) b8 =>
(.br 81 (decide (t8<((t.ls.map Lnk.v).length:Int))) (.el 129 Lnk.v t.ls (λR=>Rf (t.ls.map Lnk.v) (ck (decide (0≤t8)) (ck (decide (t8<(t.ls.length:Int)))
(∀x8,t.ls[t8.toNat]?=some x8 →
(R x8))))) λx8 =>
(.el 225 Lnk.v t.ls (λR=>Rf (t.ls.map Lnk.v) (ck (decide (0≤t8)) (ck (decide (t8<(t.ls.length:Int)))
(∀x9,t.ls[t8.toNat]?=some x9 →
(R x9))))) λx9 =>
(.br 289 (decide (x9.b≤x8.a)) (.ret (8))
(.bk 8 b8 ((W (t8+1)):Int) [0]))))
(.loop 9 (chk5_n9 t) (I9 t0 t1 t3 t4 t6 t8) (m9 t0 t1 t3 t4 t6 t8) ((1):Int) [0] λ(t9:Int) b9 =>
(.br 81 (decide (t9<((t.ls.map Lnk.v).length:Int))) (.el 145 Lnk.v t.ls (λR=>Rf (t.ls.map Lnk.v) (ck (decide (0≤(W (t9-1)))) (ck (decide ((W (t9-1))<(t.ls.length:Int)))
(∀x10,t.ls[(W (t9-1)).toNat]?=some x10 →
(R x10))))) λx10 =>
(.el 225 Lnk.v t.ls (λR=>Rf (t.ls.map Lnk.v) (ck (decide (0≤t9)) (ck (decide (t9<(t.ls.length:Int)))
(∀x11,t.ls[t9.toNat]?=some x11 →
(R x11))))) λx11 =>
(.join 10 (chk5_n10 t t9) (λ(t10:Bool)=>I10 t0 t1 t3 t4 t6 t8 t9 x10 x11 t10) (λb10=>(.br 417 (decide (x11.a<x10.a)) (.bk 10 b10 ((true):Bool) [0])
(.br 513 (x10.a==x11.a) (.bk 10 b10 ((decide (x11.b≤x10.b)):Bool) [0])
(.bk 10 b10 ((false):Bool) [0])))) λ(t10:Bool) =>
(.br 1 t10 (.ret (25))
(.bk 9 b9 ((W (t9+1)):Int) [0])))))
(.ret (0))))))))))))))))))
def chk5_vc(t:Tpl)(I0:Bool→Prop)(I1:Bool→Int→Prop)(m1:Bool→Int→Nat)(I2:Bool→Int→Bool→Prop)(I3:Bool→Int→Int→Prop)(m3:Bool→Int→Int→Nat)(I4:Bool→Int→Int→Int→Prop)(m4:Bool→Int→Int→Int→Nat)(I5:Bool→Int→Int→Int→Lnk→Bool→Prop)(I6:Bool→Int→Int→Int→Int→Prop)(m6:Bool→Int→Int→Int→Int→Nat)(I7:Bool→Int→Int→Int→Int→Bool→Prop)(I8:Bool→Int→Int→Int→Int→Int→Prop)(m8:Bool→Int→Int→Int→Int→Int→Nat)(I9:Bool→Int→Int→Int→Int→Int→Int→Prop)(m9:Bool→Int→Int→Int→Int→Int→Int→Nat)(I10:Bool→Int→Int→Int→Int→Int→Int→Lnk→Lnk→Bool→Prop)(r0:Int):Prop:=(chk5_x t I0 I1 m1 I2 I3 m3 I4 m4 I5 I6 m6 I7 I8 m8 I9 m9 I10).vp chk5_e r0
theorem chk5_p(t:Tpl)(ok:chk5_a t):∃I0 I1 m1 I2 I3 m3 I4 m4 I5 I6 m6 I7 I8 m8 I9 m9 I10,chk5_vc t I0 I1 m1 I2 I3 m3 I4 m4 I5 I6 m6 I7 I8 m8 I9 m9 I10 (chk5 t):=by
 refine⟨λb=>b=decide (24<t.rs.length∨60<t.ls.length),λ_ i=>ForI t.rs (λx=>1≤x.id∧x.id≤99) i,λ_ i=>t.rs.length-i.toNat,
  λ_ i b=>∀x,t.rs[i.toNat]?=some x→b=decide (¬(1≤x.id∧x.id≤99)),λ_ _ i=>ForA t.rs (λx y=>x.id<y.id) i,λ_ _ i=>t.rs.length+1-i.toNat,
  λ_ _ _ i=>ForI t.ls lnkR i,λ_ _ _ i=>t.ls.length-i.toNat,λ_ _ _ _ l b=>b=decide (¬lnkR l),λ_ _ _ _ i=>ForI t.ls (λl=>has5 t l.a=true∧has5 t l.b=true) i,λ_ _ _ _ i=>t.ls.length-i.toNat,
  λ_ _ _ _ i b=>∀l,t.ls[i.toNat]?=some l→b=decide (¬(has5 t l.a=true∧has5 t l.b=true)),λ_ _ _ _ _ i=>ForI t.ls (λl=>l.a<l.b) i,λ_ _ _ _ _ i=>t.ls.length-i.toNat,
  λ_ _ _ _ _ _ i=>ForA t.ls lnkL i,λ_ _ _ _ _ _ i=>t.ls.length+1-i.toNat,λ_ _ _ _ _ _ _ x y b=>b=decide (¬lnkL x y),?_⟩
 simp only[chk5_a,okU,Blk.ok,plainV,List.length_map]at ok
 dsimp only[chk5_vc,chk5_x,chk5_s,Ax.vp,Ax.vc];simp only[vcU,rfU,List.length_map]
 refine⟨⟨λc=>(decide_eq_true (.inl (by omega))).symm,λc=>decide_eq_decide.mpr (by omega)⟩,?_⟩
 rintro _ rfl
 unfold chk5
 refine⟨λc=>by rw[if_pos (of_decide_eq_true c)],λc=>⟨ForI.zero,λi1 h1=>⟨λd=>⟨⟨h1.idx,d,λx hx=>⟨λe y hy=>?_,λe=>⟨h1.idx,d,λy hy z hz=>?_⟩⟩⟩,?_⟩,λd=>?_⟩⟩⟩
 ·rw[hx]at hy;cases hy;exact(decide_eq_true (by omega)).symm
 ·rw[hx]at hy;cases hy;rw[hx]at hz;cases hz;exact decide_eq_decide.mpr (by omega)
 ·have c:=of_decide_eq_false c
  have hx:=List.getElem?_eq_getElem (show i1.toNat<t.rs.length by have:=h1.idx;omega)
  intro b hb
  have hb:=hb _ hx
  subst hb
  refine⟨λe=>?_,λe=>h1.step (by omega) hx (Classical.not_not.mp (of_decide_eq_false e))⟩
  rw[if_neg c,if_pos λq=>of_decide_eq_true e (q _ (at_mem hx))]
 have c:=of_decide_eq_false c
 rw[if_neg c,if_neg (not_not_intro (h1.done d))]
 refine⟨ForA.one,λi2 h2=>⟨λd2=>?_,λd2=>?_⟩⟩
 ·obtain⟨a1,a2⟩:=h2.idx (by omega) d2
  refine⟨a1.1,a1.2,λx hx=>⟨a2,d2,λy hy=>⟨λe=>?_,λe=>h2.step (by omega) hx hy (by omega)⟩⟩⟩
  rw[if_pos (h2.bad (by omega) hx hy (by omega))]
 rw[if_neg (not_not_intro (h2.done d2 λ_ _ _ q r=>Int.lt_trans q r))]
 refine⟨ForI.zero,λi3 h3=>⟨λd3=>⟨h3.idx,d3,λx hx=>⟨⟨λe=>?_,λe=>⟨λe2=>?_,λe2=>⟨λe3=>?_,λe3=>?_⟩⟩⟩,?_⟩⟩,λd3=>?_⟩⟩
 ·exact(decide_eq_true (show ¬lnkR x from λq=>by rw[q.1]at e;cases e)).symm
 ·exact(decide_eq_true (show ¬lnkR x from λq=>by rw[q.2.1]at e2;cases e2)).symm
 ·exact(decide_eq_true (show ¬lnkR x from λq=>by have:=q.2.2.1;omega)).symm
 ·have e:cst5 x.ca=true:=by simpa using e
  have e2:cst5 x.cb=true:=by simpa using e2
  refine decide_eq_decide.mpr ⟨λq r=>by have:=r.2.2.2;omega,λq=>?_⟩
  exact Classical.byContradiction λr=>q ⟨e,e2,by omega,by omega⟩
 ·rintro _ rfl
  refine⟨λe=>?_,λe=>h3.step (by omega) hx (Classical.not_not.mp (of_decide_eq_false e))⟩
  rw[if_pos λq=>of_decide_eq_true e (q _ (at_mem hx))]
 rw[if_neg (not_not_intro (h3.done d3))]
 refine⟨ForI.zero,λi4 h4=>⟨λd4=>⟨⟨h4.idx,d4,λx hx=>⟨λe y hy=>?_,λe=>⟨h4.idx,d4,λy hy z hz=>?_⟩⟩⟩,?_⟩,λd4=>?_⟩⟩
 ·rw[hx]at hy;cases hy
  exact(decide_eq_true (show ¬(has5 t x.a=true∧has5 t x.b=true)from λq=>by rw[q.1]at e;cases e)).symm
 ·rw[hx]at hy;cases hy;rw[hx]at hz;cases hz
  have e:has5 t x.a=true:=by simpa using e
  cases q:has5 t x.b<;>simp[e]
 ·have hx:=List.getElem?_eq_getElem (show i4.toNat<t.ls.length by have:=h4.idx;omega)
  intro b hb
  have hb:=hb _ hx
  subst hb
  refine⟨λe=>?_,λe=>h4.step (by omega) hx (Classical.not_not.mp (of_decide_eq_false e))⟩
  rw[if_pos λq=>of_decide_eq_true e (q _ (at_mem hx))]
 rw[if_neg (not_not_intro (h4.done d4))]
 refine⟨ForI.zero,λi5 h5=>⟨λd5=>⟨h5.idx,d5,λx hx=>⟨h5.idx,d5,λy hy=>?_⟩⟩,λd5=>?_⟩⟩
 ·rw[hx]at hy;cases hy
  refine⟨λe=>?_,λe=>h5.step (by omega) hx (by omega)⟩
  rw[if_pos λq=>by have:=q _ (at_mem hx);omega]
 rw[if_neg (not_not_intro (h5.done d5))]
 refine⟨ForA.one,λi6 h6=>⟨λd6=>?_,λd6=>?_⟩⟩
 ·obtain⟨a1,a2⟩:=h6.idx (by omega) d6
  refine⟨a1.1,a1.2,λx hx=>⟨a2,d6,λy hy=>⟨⟨λe=>?_,λe=>⟨λe2=>?_,λe2=>?_⟩⟩,?_⟩⟩⟩
  ·exact(decide_eq_true (show ¬lnkL x y from λq=>by unfold lnkL at q;omega)).symm
  ·have e2:=eq_of_beq e2
   exact decide_eq_decide.mpr (by unfold lnkL;omega)
  ·have e2:¬x.a=y.a:=by simpa using e2
   exact(decide_eq_false (not_not_intro (.inl (by omega)))).symm
  ·rintro _ rfl
   refine⟨λe=>?_,λe=>h6.step (by omega) hx hy (Classical.not_not.mp (of_decide_eq_false e))⟩
   rw[if_pos (h6.bad (by omega) hx hy (of_decide_eq_true e))]
 ·rw[if_neg (not_not_intro (h6.done d6 λ_ _ _ q r=>by unfold lnkL at *;omega))]
def chk5_c(t:Tpl):PC Tryd.prog:=⟨52,[(.a [(.s 2),(.s 5)])],[.agg [.sl 2 (t.rs.map Rtr.v) false,.sl 5 (t.ls.map Lnk.v) false]],chk5_e (chk5 t),PSpec.of_ok λok=>(chk5_p t ok).elim λI0 h=>h.elim λI1 h=>h.elim λm1 h=>h.elim λI2 h=>h.elim λI3 h=>h.elim λm3 h=>h.elim λI4 h=>h.elim λm4 h=>h.elim λI5 h=>h.elim λI6 h=>h.elim λm6 h=>h.elim λI7 h=>h.elim λI8 h=>h.elim λm8 h=>h.elim λI9 h=>h.elim λm9 h=>h.elim λI10 h=>mxP_of (sh:=.k) (enc:=chk5_e) (a:=(chk5_x t I0 I1 m1 I2 I3 m3 I4 m4 I5 I6 m6 I7 I8 m8 I9 m9 I10).an) h (by kernel_rfl) (AV.pureB_ok rfl),fnB_ok (by kernel_rfl)⟩
def prcH(f g:Int)(l:Lnk):Bool:=(l.a==f && l.b==g) || (l.b==f && l.a==g)
def prc5(t:Tpl)(f g:Int):Int×Bool:=match t.ls.find? (prcH f g)with
 | some l=>(if(l.a==f && l.b==g)=true then l.ca else l.cb,true)
 | none=>(0,false)
def prc5_a(t:Tpl)(from_:Int)(to_:Int):Prop:=okL [.agg [.sl 2 (t.rs.map Rtr.v) false,.sl 5 (t.ls.map Lnk.v) false],.int from_,.int to_]
def prc5_n0(t:Tpl)(from_:Int)(to_:Int)(t0:Int):NF:=⟨[(1,.k,.int from_),(2,.k,.int to_),(3,.k,.ref 0 0),(8,.k,.int t0)],[.box (.agg [.sl 2 (t.rs.map Rtr.v) false,.sl 5 (t.ls.map Lnk.v) false])]⟩
def prc5_n1(t:Tpl)(from_:Int)(to_:Int)(t0:Int)(x1:Lnk)(t1:Bool):NF:=⟨[(1,.k,.int from_),(2,.k,.int to_),(3,.k,.ref 0 0),(8,.k,.int t0),(9,.k,.ref 1 0),(31,.k,.bool t1)],[.box (.agg [.sl 2 (t.rs.map Rtr.v) false,.sl 5 (t.ls.map Lnk.v) false]),.box (.agg [.int x1.a,.int x1.b,.int x1.ca,.int x1.cb,.int x1.w])]⟩
def prc5_n2(t:Tpl)(from_:Int)(to_:Int)(t0:Int)(x1:Lnk)(t2:Bool):NF:=⟨[(1,.k,.int from_),(2,.k,.int to_),(3,.k,.ref 0 0),(8,.k,.int t0),(9,.k,.ref 1 0),(43,.k,.bool t2)],[.box (.agg [.sl 2 (t.rs.map Rtr.v) false,.sl 5 (t.ls.map Lnk.v) false]),.box (.agg [.int x1.a,.int x1.b,.int x1.ca,.int x1.cb,.int x1.w])]⟩
@[reducible] def prc5_s:Nat→Type
 | 0=>Int
 | 1=>Bool
 | 2=>Bool
 | _=>Unit
def prc5_e(r:Int×Bool):AV:=.tup [.int r.1,.bool r.2]
def prc5_x(t:Tpl)(from_:Int)(to_:Int)(I0:Int→Prop)(m0:Int→Nat)(I1:Int→Lnk→Bool→Prop)(I2:Int→Lnk→Bool→Bool→Prop):Ax Tryd.prog prc5_s (Int×Bool):=
 (.loop 0 (prc5_n0 t from_ to_) I0 m0 ((0):Int) [0] λ(t0:Int) b0 =>
(.br 81 (decide (t0<((t.ls.map Lnk.v).length:Int))) (.el 129 Lnk.v t.ls (λR=>Rf (t.ls.map Lnk.v) (ck (decide (0≤t0)) (ck (decide (t0<(t.ls.length:Int)))
(∀x1,t.ls[t0.toNat]?=some x1 →
(R x1))))) λx1 =>
(.pass (.join 1 (prc5_n1 t from_ to_ t0 x1) (λ(t1:Bool)=>I1 t0 x1 t1) (λb1=>(.br 273 (x1.a==from_) (.bk 1 b1 ((x1.b==to_):Bool) [0,161])
(.bk 1 b1 ((false):Bool) [0,161]))) λ(t1:Bool) =>
(.br 2 t1 (.ret (x1.ca,true))
(.join 2 (prc5_n2 t from_ to_ t0 x1) (λ(t2:Bool)=>I2 t0 x1 t1 t2) (λb2=>(.br 82 (x1.b==from_) (.bk 2 b2 ((x1.a==to_):Bool) [0,1])
(.bk 2 b2 ((false):Bool) [0,1]))) λ(t2:Bool) =>
(.br 2 t2 (.ret (x1.cb,true))
(.bk 0 b0 ((W (t0+1)):Int) [0])))))))
(.ret (0,false))))
def prc5_vc(t:Tpl)(from_:Int)(to_:Int)(I0:Int→Prop)(m0:Int→Nat)(I1:Int→Lnk→Bool→Prop)(I2:Int→Lnk→Bool→Bool→Prop)(r0:Int×Bool):Prop:=(prc5_x t from_ to_ I0 m0 I1 I2).vp prc5_e r0
theorem prc5_p(t:Tpl)(f g:Int)(ok:prc5_a t f g):∃I0 m0 I1 I2,prc5_vc t f g I0 m0 I1 I2 (prc5 t f g):=by
 refine⟨λi=>ForI t.ls (λl=>prcH f g l=false) i,λi=>t.ls.length-i.toNat,λ_ l b=>b=(l.a==f && l.b==g),λ_ l _ b=>b=(l.b==f && l.a==g),?_⟩
 simp only[prc5_a,okU,Blk.ok,plainV,List.length_map]at ok
 dsimp only[prc5_vc,prc5_x,prc5_s,Ax.vp,Ax.vc];simp only[vcU,rfU,List.length_map]
 refine⟨ForI.zero,λi h=>⟨λc=>⟨h.idx,c,λx hx=>⟨⟨λe=>by rw[e];rfl,λe=>by rw[e];rfl⟩,?_⟩⟩,λc=>?_⟩⟩
 ·rintro _ rfl
  refine⟨λe=>?_,λe=>⟨⟨λe2=>by rw[e2];rfl,λe2=>by rw[e2];rfl⟩,?_⟩⟩
  ·rw[prc5,fi_find h hx (by rw[prcH,e];rfl)]
   simp only;rw[if_pos e]
  ·rintro _ rfl
   refine⟨λe2=>?_,λe2=>h.step (by omega) hx (by rw[prcH,e,e2];rfl)⟩
   rw[prc5,fi_find h hx (by rw[prcH,e2,Bool.or_true])]
   simp only;rw[if_neg (by rw[e];simp)]
 ·rw[prc5,fi_none h c]
def prc5_c(t:Tpl)(from_:Int)(to_:Int):PC Tryd.prog:=⟨91,[(.a [(.s 2),(.s 5)]),.k,.k],[.agg [.sl 2 (t.rs.map Rtr.v) false,.sl 5 (t.ls.map Lnk.v) false],.int from_,.int to_],prc5_e (prc5 t from_ to_),PSpec.of_ok λok=>(prc5_p t from_ to_ ok).elim λI0 h=>h.elim λm0 h=>h.elim λI1 h=>h.elim λI2 h=>mxP_of (sh:=.k) (enc:=prc5_e) (a:=(prc5_x t from_ to_ I0 m0 I1 I2).an) h (by kernel_rfl) (AV.pureB_ok rfl),fnB_ok (by kernel_rfl)⟩
def nea5(t:Tpl)(r:Int):List Int:=t.rs.flatMap λx=>if(prc5 t r x.id).2=true then [x.id]else []
def nea5_a(t:Tpl)(r:Int):Prop:=okL [.agg [.sl 2 (t.rs.map Rtr.v) false,.sl 5 (t.ls.map Lnk.v) false],.int r]
def nea5_n0(t:Tpl)(r:Int)(t0:Int×(List Int)):NF:=⟨[(1,.k,.int r),(2,.k,.ref 0 0),(5,.k,.vec 1),(6,.k,.int t0.1)],[.box (.agg [.sl 2 (t.rs.map Rtr.v) false,.sl 5 (t.ls.map Lnk.v) false]),.vec 1 (t0.2.map AV.int) (pureBL_map (λ_=>rfl) t0.2)]⟩
@[reducible] def nea5_s:Nat→Type
 | 0=>Int×(List Int)
 | _=>Unit
def nea5_e(r:(List Int)):AV:=.sl 1 (r.map AV.int) false
def nea5_x(t:Tpl)(r:Int)(I0:(Int×(List Int))→Prop)(m0:(Int×(List Int))→Nat):Ax Tryd.prog nea5_s ((List Int)):=
 (.cmdL (.nilT 5 1) (.loop 0 (nea5_n0 t r) I0 m0 (0,[]) [0,64] λ(t0:Int×(List Int)) b0 =>
(.br 82 (decide (t0.1<((t.rs.map Rtr.v).length:Int))) (.el 162 Rtr.v t.rs (λR=>Rf (t.rs.map Rtr.v) (ck (decide (0≤t0.1)) (ck (decide (t0.1<(t.rs.length:Int)))
(∀x1,t.rs[t0.1.toNat]?=some x1 →
(R x1))))) λx1 =>
(.callP (prc5_c t r x1.id)
(.br 322 ((prc5 t r x1.id).2) (.el 386 Rtr.v t.rs (λR=>Rf (t.rs.map Rtr.v) (ck (decide (0≤t0.1)) (ck (decide (t0.1<(t.rs.length:Int)))
(∀x2,t.rs[t0.1.toNat]?=some x2 →
(R x2))))) λx2 =>
(.say (λR=>Rf (α:=List AV) (t0.2.map AV.int) (Rf (α:=List AV) [.int x2.id]
(ck (decide (t0.2.length+1≤1048576))
R))) (.app 450 AV.int t0.2 [x2.id]
(.bk 0 b0 (W (t0.1+1),t0.2++[x2.id]) [0,450]))))
(.bk 0 b0 (W (t0.1+1),t0.2) [0,1]))))
(.say (Rf (t0.2.map AV.int)) (.cmdL (.frzE 1 (t0.2.map AV.int) (pureBL_map (λ_=>rfl) t0.2)) (.ret (t0.2)))))))
def nea5_vc(t:Tpl)(r:Int)(I0:(Int×(List Int))→Prop)(m0:(Int×(List Int))→Nat)(r0:(List Int)):Prop:=(nea5_x t r I0 m0).vp nea5_e r0
theorem nea5_p(t:Tpl)(r:Int)(h:t.rs.length≤1000)(ok:nea5_a t r):∃I m,nea5_vc t r I m (nea5 t r):=by
 refine⟨λs=>ForX t.rs (λx=>if(prc5 t r x.id).2=true then [x.id]else []) s.1 s.2,λs=>t.rs.length-s.1.toNat,?_⟩
 dsimp only[nea5_vc,nea5_x,nea5_s,Ax.vp,Ax.vc];simp only[vcU,rfU,List.length_map]
 refine⟨ForX.zero,?_⟩
 rintro⟨i,out⟩ g
 simp only at g ⊢
 have hl:=g.len (b:=1) λx _=>by split<;>simp
 refine⟨λc=>⟨g.idx,c,λx hx=>?_⟩,λc=>?_⟩
 ·refine⟨λe=>⟨g.idx,c,λy hy=>⟨by omega,?_⟩⟩,λe=>g.step (by omega) hx (by rw[if_neg (by rw[e];simp)];simp)⟩
  rw[hx]at hy;cases hy
  exact g.step (by omega) hx (by rw[if_pos e])
 ·exact g.done c
def nea5_c(t:Tpl)(r:Int)(h:t.rs.length≤1000):PC Tryd.prog:=⟨86,[(.a [(.s 2),(.s 5)]),.k],[.agg [.sl 2 (t.rs.map Rtr.v) false,.sl 5 (t.ls.map Lnk.v) false],.int r],nea5_e (nea5 t r),PSpec.of_ok λok=>(nea5_p t r h ok).elim λI0 h=>h.elim λm0 h=>mxP_of (sh:=(.s 1)) (enc:=nea5_e) (a:=(nea5_x t r I0 m0).an) h (by kernel_rfl) (AV.pureB_ok rfl),fnB_ok (by kernel_rfl)⟩
theorem chk5_len{t:Tpl}(h:chk5 t=0):t.rs.length≤24∧t.ls.length≤60:=by
 unfold chk5 at h
 by_cases c:24<t.rs.length∨60<t.ls.length
 ·rw[if_pos c]at h;cases h
 ·omega
def nei5(t:Tpl)(r:Int):List Int:=if chk5 t≠0 then []else nea5 t r
def nei5_a(t:Tpl)(r:Int):Prop:=okL [.agg [.sl 2 (t.rs.map Rtr.v) false,.sl 5 (t.ls.map Lnk.v) false],.int r]
def nei5_e(r:(List Int)):AV:=.sl 1 (r.map AV.int) false
def nei5_x(t:Tpl)(r:Int):Ax Tryd.prog noS ((List Int)):=
 (.callP (chk5_c t)
(.br 80 ((chk5 t) != 0) (.ret ([]))
(.req 112 (t.rs.length≤1000) λh1 =>
(.callP (nea5_c t r h1)
(.ret (nea5 t r))))))
def nei5_vc(t:Tpl)(r:Int)(r0:(List Int)):Prop:=(nei5_x t r).vp nei5_e r0
theorem nei5_p(t:Tpl)(r:Int)(ok:nei5_a t r):nei5_vc t r (nei5 t r):=by
 dsimp only[nei5_vc,nei5_x,noS,Ax.vp,Ax.vc];simp only[vcU,rfU,List.length_map]
 refine⟨λc=>?_,λc=>?_⟩
 ·rw[nei5,if_pos (by simpa using c)]
 ·have c:chk5 t=0:=by simpa using c
  have:=(chk5_len c).1
  exact⟨by omega,by rw[nei5,if_neg (not_not_intro c)]⟩
def nei5_c(t:Tpl)(r:Int):PC Tryd.prog:=⟨72,[(.a [(.s 2),(.s 5)]),.k],[.agg [.sl 2 (t.rs.map Rtr.v) false,.sl 5 (t.ls.map Lnk.v) false],.int r],nei5_e (nei5 t r),PSpec.of_ok λok=>mxP_of (sh:=(.s 1)) (enc:=nei5_e) (a:=(nei5_x t r).an) (nei5_p t r ok) (by kernel_rfl) (AV.pureB_ok rfl),fnB_ok (by kernel_rfl)⟩
def hs5(t:Tpl)(r:Int):Bool:=(chk5 t==0) && has5 t r
def hs5_a(t:Tpl)(r:Int):Prop:=okL [.agg [.sl 2 (t.rs.map Rtr.v) false,.sl 5 (t.ls.map Lnk.v) false],.int r]
def hs5_e(r:Bool):AV:=.bool r
def hs5_x(t:Tpl)(r:Int):Ax Tryd.prog noS (Bool):=
 (.callP (chk5_c t)
(.br 96 ((chk5 t)==0) (.callP (has5_c t r)
(.ret (has5 t r)))
(.ret (false))))
def hs5_vc(t:Tpl)(r:Int)(r0:Bool):Prop:=(hs5_x t r).vp hs5_e r0
theorem hs5_p(t:Tpl)(r:Int)(ok:hs5_a t r):hs5_vc t r (hs5 t r):=by
 dsimp only[hs5_vc,hs5_x,noS,Ax.vp,Ax.vc];simp only[vcU,rfU,List.length_map]
 refine⟨λc=>?_,λc=>?_⟩<;>rw[hs5,c]<;>rfl
def hs5_c(t:Tpl)(r:Int):PC Tryd.prog:=⟨54,[(.a [(.s 2),(.s 5)]),.k],[.agg [.sl 2 (t.rs.map Rtr.v) false,.sl 5 (t.ls.map Lnk.v) false],.int r],hs5_e (hs5 t r),PSpec.of_ok λok=>mxP_of (sh:=.k) (enc:=hs5_e) (a:=(hs5_x t r).an) (hs5_p t r ok) (by kernel_rfl) (AV.pureB_ok rfl),fnB_ok (by kernel_rfl)⟩
def cos5(t:Tpl)(f g:Int):Int×Bool:=if chk5 t≠0 then(0,false)else prc5 t f g
def cos5_a(t:Tpl)(from_:Int)(to_:Int):Prop:=okL [.agg [.sl 2 (t.rs.map Rtr.v) false,.sl 5 (t.ls.map Lnk.v) false],.int from_,.int to_]
def cos5_e(r:Int×Bool):AV:=.tup [.int r.1,.bool r.2]
def cos5_x(t:Tpl)(from_:Int)(to_:Int):Ax Tryd.prog noS (Int×Bool):=
 (.callP (chk5_c t)
(.br 96 ((chk5 t) != 0) (.ret (0,false))
(.callP (prc5_c t from_ to_)
(.ret ((prc5 t from_ to_).1,(prc5 t from_ to_).2)))))
def cos5_vc(t:Tpl)(from_:Int)(to_:Int)(r0:Int×Bool):Prop:=(cos5_x t from_ to_).vp cos5_e r0
theorem cos5_p(t:Tpl)(f g:Int)(ok:cos5_a t f g):cos5_vc t f g (cos5 t f g):=by
 dsimp only[cos5_vc,cos5_x,noS,Ax.vp,Ax.vc];simp only[vcU,rfU,List.length_map]
 refine⟨λc=>?_,λc=>?_⟩
 ·rw[cos5,if_pos (by simpa using c)]
 ·rw[cos5,if_neg (by simpa using c)]
def cos5_c(t:Tpl)(from_:Int)(to_:Int):PC Tryd.prog:=⟨80,[(.a [(.s 2),(.s 5)]),.k,.k],[.agg [.sl 2 (t.rs.map Rtr.v) false,.sl 5 (t.ls.map Lnk.v) false],.int from_,.int to_],cos5_e (cos5 t from_ to_),PSpec.of_ok λok=>mxP_of (sh:=.k) (enc:=cos5_e) (a:=(cos5_x t from_ to_).an) (cos5_p t from_ to_ ok) (by kernel_rfl) (AV.pureB_ok rfl),fnB_ok (by kernel_rfl)⟩
def isR(r:Int)(x:Rtr):Bool:=x.id==r
theorem idxF_rng{α:Type}{p:α→Bool}{l:List α}(h:l.any p=true):0≤idxF p l∧idxF p l<l.length:=by
 rw[idxF,if_pos h]
 have:l.findIdx p<l.length:=List.findIdx_lt_length.mpr (List.any_eq_true.mp h)
 omega
def plc6(t:Tpl)(r:Int):Int:=if has5 t r=true then idxF (isR r) t.rs else 0
theorem plc6_rng{t:Tpl}{r:Int}(h:0<t.rs.length):0≤plc6 t r∧plc6 t r<t.rs.length:=by
 unfold plc6
 split
 ·rename_i c;exact idxF_rng c
 ·omega
def plc6_a(t:Tpl)(r:Int):Prop:=okL [.agg [.sl 2 (t.rs.map Rtr.v) false,.sl 5 (t.ls.map Lnk.v) false],.int r]
def plc6_n0(t:Tpl)(r:Int)(t0:Int):NF:=⟨[(1,.k,.int r),(2,.k,.ref 0 0),(5,.k,.int t0)],[.box (.agg [.sl 2 (t.rs.map Rtr.v) false,.sl 5 (t.ls.map Lnk.v) false])]⟩
@[reducible] def plc6_s:Nat→Type
 | 0=>Int
 | _=>Unit
def plc6_e(r:Int):AV:=.int r
def plc6_x(t:Tpl)(r:Int)(I0:Int→Prop)(m0:Int→Nat):Ax Tryd.prog plc6_s (Int):=
 (.loop 0 (plc6_n0 t r) I0 m0 ((0):Int) [0] λ(t0:Int) b0 =>
(.br 81 (decide (t0<((t.rs.map Rtr.v).length:Int))) (.el 129 Rtr.v t.rs (λR=>Rf (t.rs.map Rtr.v) (ck (decide (0≤t0)) (ck (decide (t0<(t.rs.length:Int)))
(∀x1,t.rs[t0.toNat]?=some x1 →
(R x1))))) λx1 =>
(.br 209 (x1.id==r) (.ret (t0))
(.bk 0 b0 ((W (t0+1)):Int) [0])))
(.ret (0))))
def plc6_vc(t:Tpl)(r:Int)(I0:Int→Prop)(m0:Int→Nat)(r0:Int):Prop:=(plc6_x t r I0 m0).vp plc6_e r0
theorem plc6_p(t:Tpl)(r:Int)(ok:plc6_a t r):∃I m,plc6_vc t r I m (plc6 t r):=by
 refine⟨λi=>ForI t.rs (λx=>isR r x=false) i,λi=>t.rs.length-i.toNat,?_⟩
 simp only[plc6_a,okU,Blk.ok,plainV,List.length_map]at ok
 dsimp only[plc6_vc,plc6_x,plc6_s,Ax.vp,Ax.vc];simp only[vcU,rfU,List.length_map]
 refine⟨ForI.zero,λi h=>⟨λc=>⟨h.idx,c,λx hx=>⟨λq=>?_,λq=>h.step (by omega) hx q⟩⟩,λc=>?_⟩⟩
 ·have:has5 t r=true:=List.any_eq_true.mpr ⟨x,at_mem hx,q⟩
  rw[plc6,if_pos this];exact h.found hx q
 ·have:¬has5 t r=true:=λq=>by
   obtain⟨x,hx,q⟩:=List.any_eq_true.mp q
   have:=h.done c x hx
   rw[isR,q]at this;cases this
  rw[plc6,if_neg this]
def plc6_c(t:Tpl)(r:Int):PC Tryd.prog:=⟨100,[(.a [(.s 2),(.s 5)]),.k],[.agg [.sl 2 (t.rs.map Rtr.v) false,.sl 5 (t.ls.map Lnk.v) false],.int r],plc6_e (plc6 t r),PSpec.of_ok λok=>(plc6_p t r ok).elim λI0 h=>h.elim λm0 h=>mxP_of (sh:=.k) (enc:=plc6_e) (a:=(plc6_x t r I0 m0).an) h (by kernel_rfl) (AV.pureB_ok rfl),fnB_ok (by kernel_rfl)⟩
def okD(t:Tpl)(d:List Int):Prop:=d.length=t.rs.length∧t.rs.length≤1000
def at6(t:Tpl)(d:List Int)(r:Int):Int:=if has5 t r=true then d.getD (idxF (isR r) t.rs).toNat 0 else 1073741824
def at6_a(t:Tpl)(d:(List Int))(r:Int):Prop:=okL [.agg [.sl 2 (t.rs.map Rtr.v) false,.sl 5 (t.ls.map Lnk.v) false],.sl 1 (d.map AV.int) false,.int r]
def at6_n0(t:Tpl)(d:(List Int))(r:Int)(t0:Int):NF:=⟨[(1,.k,.sl 1 (d.map AV.int) false),(2,.k,.int r),(3,.k,.ref 0 0),(7,.k,.int t0)],[.box (.agg [.sl 2 (t.rs.map Rtr.v) false,.sl 5 (t.ls.map Lnk.v) false])]⟩
@[reducible] def at6_s:Nat→Type
 | 0=>Int
 | _=>Unit
def at6_e(r:Int):AV:=.int r
def at6_x(t:Tpl)(d:(List Int))(r:Int)(I0:Int→Prop)(m0:Int→Nat):Ax Tryd.prog at6_s (Int):=
 (.loop 0 (at6_n0 t d r) I0 m0 ((0):Int) [0] λ(t0:Int) b0 =>
(.br 81 (decide (t0<((t.rs.map Rtr.v).length:Int))) (.el 129 Rtr.v t.rs (λR=>Rf (t.rs.map Rtr.v) (ck (decide (0≤t0)) (ck (decide (t0<(t.rs.length:Int)))
(∀x1,t.rs[t0.toNat]?=some x1 →
(R x1))))) λx1 =>
(.br 209 (x1.id==r) (.el 241 AV.int d (λR=>Rf (d.map AV.int) (ck (decide (0≤t0)) (ck (decide (t0<(d.length:Int)))
(∀x2,d[t0.toNat]?=some x2 →
(R x2))))) λx2 =>
(.ret (x2)))
(.bk 0 b0 ((W (t0+1)):Int) [0])))
(.ret (1073741824))))
def at6_vc(t:Tpl)(d:(List Int))(r:Int)(I0:Int→Prop)(m0:Int→Nat)(r0:Int):Prop:=(at6_x t d r I0 m0).vp at6_e r0
theorem at6_p(t:Tpl)(d:List Int)(r:Int)(h:okD t d)(ok:at6_a t d r):∃I m,at6_vc t d r I m (at6 t d r):=by
 refine⟨λi=>ForI t.rs (λx=>isR r x=false) i,λi=>t.rs.length-i.toNat,?_⟩
 dsimp only[at6_vc,at6_x,at6_s,Ax.vp,Ax.vc];simp only[vcU,rfU,List.length_map]
 obtain⟨hd,hn⟩:=h
 refine⟨ForI.zero,λi h=>⟨λc=>⟨h.idx,c,λx hx=>⟨λq=>⟨h.idx,by omega,λy hy=>?_⟩,λq=>h.step (by omega) hx q⟩⟩,λc=>?_⟩⟩
 ·have e:has5 t r=true:=List.any_eq_true.mpr ⟨x,at_mem hx,q⟩
  rw[at6,if_pos e,←h.found hx q,List.getD_eq_getElem?_getD,hy];rfl
 ·have:¬has5 t r=true:=λq=>by
   obtain⟨x,hx,q⟩:=List.any_eq_true.mp q
   have:=h.done c x hx
   rw[isR,q]at this;cases this
  rw[at6,if_neg this]
def at6_c(t:Tpl)(d:(List Int))(r:Int)(h:okD t d):PC Tryd.prog:=⟨101,[(.a [(.s 2),(.s 5)]),(.s 1),.k],[.agg [.sl 2 (t.rs.map Rtr.v) false,.sl 5 (t.ls.map Lnk.v) false],.sl 1 (d.map AV.int) false,.int r],at6_e (at6 t d r),PSpec.of_ok λok=>(at6_p t d r h ok).elim λI0 h=>h.elim λm0 h=>mxP_of (sh:=.k) (enc:=at6_e) (a:=(at6_x t d r I0 m0).an) h (by kernel_rfl) (AV.pureB_ok rfl),fnB_ok (by kernel_rfl)⟩
def rlx1(d:List Int)(a b:Nat)(c:Int):List Int:=if d.getD b 0<1073741824 then d.set a (minI (d.getD a 0) (W (c+d.getD b 0)))else d
def rlx(t:Tpl)(d:List Int)(l:Lnk):List Int:=rlx1 (rlx1 d (plc6 t l.a).toNat (plc6 t l.b).toNat l.ca) (plc6 t l.b).toNat (plc6 t l.a).toNat l.cb
def rndD(t:Tpl):Nat→List Int→List Int
 | 0,d=>d
 | n+1,d=>t.ls.foldl (rlx t) (rndD t n d)
def to0(t:Tpl)(r:Int):List Int:=t.rs.map λx=>if isR r x=true then 0 else 1073741824
def to6(t:Tpl)(r:Int):List Int:=rndD t t.rs.length (to0 t r)
theorem rlx1_len{d:List Int}{a b:Nat}{c:Int}:(rlx1 d a b c).length=d.length:=by unfold rlx1;split<;>simp
theorem rlx_len{t:Tpl}{d:List Int}{l:Lnk}:(rlx t d l).length=d.length:=by rw[rlx,rlx1_len,rlx1_len]
theorem fold_rlx_len{t:Tpl}:∀{ls:List Lnk} {d:List Int},(ls.foldl (rlx t) d).length=d.length
 | [],d=>rfl
 | l::ls,d=>by rw[List.foldl_cons,fold_rlx_len,rlx_len]
theorem rndD_len{t:Tpl}{d:List Int}:∀{n:Nat},(rndD t n d).length=d.length
 | 0=>rfl
 | n+1=>by rw[rndD,fold_rlx_len,rndD_len]
theorem to6_len{t:Tpl}{r:Int}:(to6 t r).length=t.rs.length:=by rw[to6,rndD_len,to0,List.length_map]
theorem mem_set{l:List Int}{k:Nat}{v:Int}{P:Int→Prop}(h:∀x∈l,P x)(hv:P v):∀x∈l.set k v,P x:=λx hx=>by
 rcases List.mem_or_eq_of_mem_set hx with q|q
 ·exact h x q
 ·exact q ▸ hv
theorem getD_nn{d:List Int}(h:∀x∈d,0≤x)(k:Nat):0≤d.getD k 0:=by
 rw[List.getD_eq_getElem?_getD]
 cases e:d[k]? with
 | none=>simp
 | some x=>exact h x (mem_of_get e)
theorem rlx1_nn{d:List Int}{a b:Nat}{c:Int}(h:∀x∈d,0≤x)(hc:1≤c∧c≤1000):∀x∈rlx1 d a b c,0≤x:=by
 unfold rlx1
 split
 ·have h1:=getD_nn h a
  have h2:=getD_nn h b
  refine mem_set h ?_
  rw[W_eq (by omega)]
  unfold minI;split<;>omega
 ·exact h
theorem cst5_iff{n:Int}:cst5 n=true↔1≤n∧n≤1000:=by unfold cst5;simp
theorem rlx_nn{t:Tpl}{d:List Int}{l:Lnk}(h:∀x∈d,0≤x)(hl:lnkR l):∀x∈rlx t d l,0≤x:=rlx1_nn (rlx1_nn h (cst5_iff.mp hl.1)) (cst5_iff.mp hl.2.1)
theorem fold_rlx_nn{t:Tpl}:∀{ls:List Lnk} {d:List Int},(∀x∈d,0≤x)→(∀l∈ls,lnkR l)→∀x∈ls.foldl (rlx t) d,0≤x
 | [],d,h,_=>h
 | l::ls,d,h,hl=>fold_rlx_nn (t:=t) (ls:=ls) (d:=rlx t d l) (rlx_nn h (hl l (by simp))) λm hm=>hl m (by simp[hm])
theorem rndD_nn{t:Tpl}(hl:∀l∈t.ls,lnkR l){d:List Int}(h:∀x∈d,0≤x):∀{n:Nat},∀x∈rndD t n d,0≤x
 | 0=>h
 | n+1=>fold_rlx_nn (rndD_nn hl h) hl
theorem chk5_ls{t:Tpl}(h:chk5 t=0):∀l∈t.ls,lnkR l:=by
 refine Classical.byContradiction λq=>?_
 unfold chk5 at h
 by_cases c1:24<t.rs.length∨60<t.ls.length
 ·rw[if_pos c1]at h;cases h
 rw[if_neg c1]at h
 by_cases c2:¬∀x∈t.rs,1≤x.id∧x.id≤99
 ·rw[if_pos c2]at h;cases h
 rw[if_neg c2]at h
 by_cases c3:¬t.rs.Pairwise (λx y=>x.id<y.id)
 ·rw[if_pos c3]at h;cases h
 rw[if_neg c3,if_pos q]at h;cases h
theorem to6_nn{t:Tpl}(h:chk5 t=0){r:Int}:∀x∈to6 t r,0≤x:=by
 refine rndD_nn (chk5_ls h) λx hx=>?_
 obtain⟨y,_,rfl⟩:=List.mem_map.mp hx
 split<;>omega
theorem set_mid{α:Type}{A B:List α}{k:Nat}{x v:α}(h:A.length=k):(A++x::B).set k v=A++v::B:=by
 subst h;rw[List.set_append_right _ _ (Nat.le_refl _),Nat.sub_self,List.set_cons_zero]
theorem getD_of{d:List Int}{k:Nat}{x:Int}(h:d[k]?=some x):d.getD k 0=x:=by rw[List.getD_eq_getElem?_getD,h];rfl
def to6_a(t:Tpl)(to_:Int):Prop:=okL [.agg [.sl 2 (t.rs.map Rtr.v) false,.sl 5 (t.ls.map Lnk.v) false],.int to_]
def to6_n0(t:Tpl)(to_:Int)(t0:Int×(List Int)):NF:=⟨[(1,.k,.int to_),(2,.k,.ref 0 0),(5,.k,.vec 1),(6,.k,.int t0.1)],[.box (.agg [.sl 2 (t.rs.map Rtr.v) false,.sl 5 (t.ls.map Lnk.v) false]),.vec 1 (t0.2.map AV.int) (pureBL_map (λ_=>rfl) t0.2)]⟩
def to6_n1(t:Tpl)(t1:Int×(List Int)):NF:=⟨[(2,.k,.ref 0 0),(5,.k,.vec 1),(7,.k,.int t1.1)],[.box (.agg [.sl 2 (t.rs.map Rtr.v) false,.sl 5 (t.ls.map Lnk.v) false]),.vec 1 (t1.2.map AV.int) (pureBL_map (λ_=>rfl) t1.2)]⟩
def to6_n2(t:Tpl)(t1:Int×(List Int))(t2:Int×(List Int)):NF:=⟨[(2,.k,.ref 0 0),(5,.k,.vec 1),(7,.k,.int t1.1),(8,.k,.int t2.1)],[.box (.agg [.sl 2 (t.rs.map Rtr.v) false,.sl 5 (t.ls.map Lnk.v) false]),.vec 1 (t2.2.map AV.int) (pureBL_map (λ_=>rfl) t2.2)]⟩
def to6_n3(t:Tpl)(t1:Int×(List Int))(t2:Int×(List Int))(x4:Lnk)(t3:(List Int)):NF:=⟨[(2,.k,.ref 0 0),(5,.k,.vec 1),(7,.k,.int t1.1),(8,.k,.int t2.1),(9,.k,.ref 2 0),(10,.k,.int (plc6 t x4.a)),(11,.k,.int (plc6 t x4.b))],[.box (.agg [.sl 2 (t.rs.map Rtr.v) false,.sl 5 (t.ls.map Lnk.v) false]),.vec 1 (t3.map AV.int) (pureBL_map (λ_=>rfl) t3),.box (.agg [.int x4.a,.int x4.b,.int x4.ca,.int x4.cb,.int x4.w])]⟩
@[reducible] def to6_s:Nat→Type
 | 0=>Int×(List Int)
 | 1=>Int×(List Int)
 | 2=>Int×(List Int)
 | 3=>(List Int)
 | _=>Unit
def to6_e(r:(List Int)):AV:=.sl 1 (r.map AV.int) false
def to6_x(t:Tpl)(to_:Int)(I0:(Int×(List Int))→Prop)(m0:(Int×(List Int))→Nat)(I1:Int×(List Int)→(Int×(List Int))→Prop)(m1:Int×(List Int)→(Int×(List Int))→Nat)(I2:Int×(List Int)→Int×(List Int)→(Int×(List Int))→Prop)(m2:Int×(List Int)→Int×(List Int)→(Int×(List Int))→Nat)(I3:Int×(List Int)→Int×(List Int)→Int×(List Int)→Lnk→(List Int)→Prop):Ax Tryd.prog to6_s ((List Int)):=
 (.say (λR=>Rf (AV.int 0) (ck (cond (decide (0≤((t.rs.map Rtr.v).length:Int))) (cond (decide (((t.rs.map Rtr.v).length:Int)≤((t.rs.map Rtr.v).length:Int))) (decide (((t.rs.map Rtr.v).length:Int)≤1048576)) false) false)
R)) (.rep 80 AV.int 0
(.loop 0 (to6_n0 t to_) I0 m0 (0,List.replicate (((t.rs.map Rtr.v).length:Int).toNat) 0) [0,80] λ(t0:Int×(List Int)) b0 =>
(.br 66 (decide (t0.1<((t0.2.map AV.int).length:Int))) (.say (ck (cond (decide (0≤t0.1)) (decide (t0.1<((t0.2.map AV.int).length:Int))) false)) (.st 114 AV.int t0.2 (λy1=>1073741824) (λR=>Rf (t0.2.map AV.int) (ck (decide (t0.1.toNat<t0.2.length))
(∀y1,t0.2[t0.1.toNat]?=some y1→Rf (AV.int 1073741824)
((R y1))))) λy1 =>
(.el 178 Rtr.v t.rs (λR=>Rf (t.rs.map Rtr.v) (ck (decide (0≤t0.1)) (ck (decide (t0.1<(t.rs.length:Int)))
(∀x2,t.rs[t0.1.toNat]?=some x2 →
(R x2))))) λx2 =>
(.br 258 (x2.id==to_) (.say (ck (cond (decide (0≤t0.1)) (decide (t0.1<(((t0.2.set t0.1.toNat 1073741824).map AV.int).length:Int))) false)) (.st 306 AV.int (t0.2.set t0.1.toNat 1073741824) (λy3=>0) (λR=>Rf ((t0.2.set t0.1.toNat 1073741824).map AV.int) (ck (decide (t0.1.toNat<(t0.2.set t0.1.toNat 1073741824).length))
(∀y3,(t0.2.set t0.1.toNat 1073741824)[t0.1.toNat]?=some y3→Rf (AV.int 0)
((R y3))))) λy3 =>
(.bk 0 b0 (W (t0.1+1),(t0.2.set t0.1.toNat 1073741824).set t0.1.toNat 0) [0,1])))
(.bk 0 b0 (W (t0.1+1),t0.2.set t0.1.toNat 1073741824) [0,1])))))
(.loop 1 (to6_n1 t) (I1 t0) (m1 t0) (0,t0.2) [0,1] λ(t1:Int×(List Int)) b1 =>
(.br 66 (decide (t1.1<((t1.2.map AV.int).length:Int))) (.loop 2 (to6_n2 t t1) (I2 t0 t1) (m2 t0 t1) (0,t1.2) [0,1] λ(t2:Int×(List Int)) b2 =>
(.br 82 (decide (t2.1<((t.ls.map Lnk.v).length:Int))) (.el 130 Lnk.v t.ls (λR=>Rf (t.ls.map Lnk.v) (ck (decide (0≤t2.1)) (ck (decide (t2.1<(t.ls.length:Int)))
(∀x4,t.ls[t2.1.toNat]?=some x4 →
(R x4))))) λx4 =>
(.callP (plc6_c t x4.a)
(.callP (plc6_c t x4.b)
(.join 3 (to6_n3 t t1 t2 x4) (λ(t3:(List Int))=>I3 t0 t1 t2 x4 t3) (λb3=>(.say (ck (cond (decide (0≤(plc6 t x4.b))) (decide ((plc6 t x4.b)<((t2.2.map AV.int).length:Int))) false)) (.el 402 AV.int t2.2 (λR=>Rf (t2.2.map AV.int) (ck (decide ((plc6 t x4.b).toNat<t2.2.length))
(∀x5,t2.2[(plc6 t x4.b).toNat]?=some x5 →
(R x5)))) λx5 =>
(.br 434 (decide (x5<1073741824)) (.say (ck (cond (decide (0≤(plc6 t x4.a))) (decide ((plc6 t x4.a)<((t2.2.map AV.int).length:Int))) false)) (.el 514 AV.int t2.2 (λR=>Rf (t2.2.map AV.int) (ck (decide ((plc6 t x4.a).toNat<t2.2.length))
(∀x6,t2.2[(plc6 t x4.a).toNat]?=some x6 →
(R x6)))) λx6 =>
(.say (ck (cond (decide (0≤(plc6 t x4.b))) (decide ((plc6 t x4.b)<((t2.2.map AV.int).length:Int))) false)) (.el 610 AV.int t2.2 (λR=>Rf (t2.2.map AV.int) (ck (decide ((plc6 t x4.b).toNat<t2.2.length))
(∀x7,t2.2[(plc6 t x4.b).toNat]?=some x7 →
(R x7)))) λx7 =>
(.say (ck (cond (decide (0≤(plc6 t x4.a))) (decide ((plc6 t x4.a)<((t2.2.map AV.int).length:Int))) false)) (.st 674 AV.int t2.2 (λy8=>(minI x6 (W (x4.ca+x7)))) (λR=>Rf (t2.2.map AV.int) (ck (decide ((plc6 t x4.a).toNat<t2.2.length))
(∀y8,t2.2[(plc6 t x4.a).toNat]?=some y8→Rf (AV.int (minI x6 (W (x4.ca+x7))))
((R y8))))) λy8 =>
(.bk 3 b3 ((t2.2.set ((plc6 t x4.a).toNat) (minI x6 (W (x4.ca+x7)))):(List Int)) [0,1,162])))))))
(.bk 3 b3 ((t2.2):(List Int)) [0,1,162]))))) λ(t3:(List Int)) =>
(.say (ck (cond (decide (0≤(plc6 t x4.a))) (decide ((plc6 t x4.a)<((t3.map AV.int).length:Int))) false)) (.el 51 AV.int t3 (λR=>Rf (t3.map AV.int) (ck (decide ((plc6 t x4.a).toNat<t3.length))
(∀x9,t3[(plc6 t x4.a).toNat]?=some x9 →
(R x9)))) λx9 =>
(.br 83 (decide (x9<1073741824)) (.say (ck (cond (decide (0≤(plc6 t x4.b))) (decide ((plc6 t x4.b)<((t3.map AV.int).length:Int))) false)) (.el 163 AV.int t3 (λR=>Rf (t3.map AV.int) (ck (decide ((plc6 t x4.b).toNat<t3.length))
(∀x10,t3[(plc6 t x4.b).toNat]?=some x10 →
(R x10)))) λx10 =>
(.say (ck (cond (decide (0≤(plc6 t x4.a))) (decide ((plc6 t x4.a)<((t3.map AV.int).length:Int))) false)) (.el 259 AV.int t3 (λR=>Rf (t3.map AV.int) (ck (decide ((plc6 t x4.a).toNat<t3.length))
(∀x11,t3[(plc6 t x4.a).toNat]?=some x11 →
(R x11)))) λx11 =>
(.say (ck (cond (decide (0≤(plc6 t x4.b))) (decide ((plc6 t x4.b)<((t3.map AV.int).length:Int))) false)) (.st 323 AV.int t3 (λy12=>(minI x10 (W (x4.cb+x11)))) (λR=>Rf (t3.map AV.int) (ck (decide ((plc6 t x4.b).toNat<t3.length))
(∀y12,t3[(plc6 t x4.b).toNat]?=some y12→Rf (AV.int (minI x10 (W (x4.cb+x11))))
((R y12))))) λy12 =>
(.bk 2 b2 (W (t2.1+1),t3.set ((plc6 t x4.b).toNat) (minI x10 (W (x4.cb+x11)))) [0,1])))))))
(.bk 2 b2 (W (t2.1+1),t3) [0,1]))))))))
(.bk 1 b1 (W (t1.1+1),t2.2) [0,1])))
(.say (Rf (t1.2.map AV.int)) (.cmdL (.frzE 1 (t1.2.map AV.int) (pureBL_map (λ_=>rfl) t1.2)) (.ret (t1.2))))))))))
def to6_vc(t:Tpl)(to_:Int)(I0:(Int×(List Int))→Prop)(m0:(Int×(List Int))→Nat)(I1:Int×(List Int)→(Int×(List Int))→Prop)(m1:Int×(List Int)→(Int×(List Int))→Nat)(I2:Int×(List Int)→Int×(List Int)→(Int×(List Int))→Prop)(m2:Int×(List Int)→Int×(List Int)→(Int×(List Int))→Nat)(I3:Int×(List Int)→Int×(List Int)→Int×(List Int)→Lnk→(List Int)→Prop)(r0:(List Int)):Prop:=(to6_x t to_ I0 m0 I1 m1 I2 m2 I3).vp to6_e r0
theorem to6_p(t:Tpl)(r:Int)(h:chk5 t=0)(ok:to6_a t r):∃I0 m0 I1 m1 I2 m2 I3,to6_vc t r I0 m0 I1 m1 I2 m2 I3 (to6 t r):=by
 refine⟨λs=>∃k:Nat,s.1=k∧k≤t.rs.length∧s.2=(to0 t r).take k++List.replicate (t.rs.length-k) 0,λs=>t.rs.length-s.1.toNat,
  λ_ s=>∃k:Nat,s.1=k∧k≤t.rs.length∧s.2=rndD t k (to0 t r),λ_ s=>t.rs.length-s.1.toNat,
  λ_ u s=>ForG t.ls (rlx t) u.2 s.1 s.2,λ_ _ s=>t.ls.length-s.1.toNat,λ_ u s l d=>d=rlx1 s.2 (plc6 t l.a).toNat (plc6 t l.b).toNat l.ca,?_⟩
 dsimp only[to6_vc,to6_x,to6_s,Ax.vp,Ax.vc];simp only[vcU,rfU,List.length_map]
 have hn:=(chk5_len h).1
 have h0:(to0 t r).length=t.rs.length:=by rw[to0,List.length_map]
 refine⟨by simp;omega,⟨0,rfl,by omega,by simp⟩,?_⟩
 rintro⟨_,_⟩ ⟨k,rfl,hk,rfl⟩
 simp only
 have hlen:((to0 t r).take k++List.replicate (t.rs.length-k) (0:Int)).length=t.rs.length:=by simp[h0];omega
 rw[hlen]
 refine⟨λc=>⟨range2 (by omega) c,by omega,λy hy=>⟨by omega,c,λx hx=>?_⟩⟩,λc=>?_⟩
 ·rw[Int.toNat_natCast]at hx ⊢
  have hkl:k<t.rs.length:=lt_of_get hx
  have e0:t.rs.length-k=(t.rs.length-(k+1))+1:=by omega
  have hA:((to0 t r).take k).length=k:=by rw[List.length_take,h0];omega
  have hg:(to0 t r)[k]?=some (if isR r x=true then 0 else 1073741824):=by rw[to0,List.getElem?_map,hx];rfl
  rw[e0,List.replicate_succ,set_mid hA,set_mid hA,W_succ (n:=t.rs.length) hkl (by omega)]
  refine⟨λe=>⟨range2 (by omega) (by simp[h0];omega),by simp[h0];omega,λy hy=>⟨⟨k+1,rfl,by omega,?_⟩,by omega⟩⟩,λe=>⟨⟨k+1,rfl,by omega,?_⟩,by omega⟩⟩
  ·rw[take_succ hg,if_pos (show isR r x=true from e)];simp
  ·have e:¬isR r x=true:=λq=>by rw[isR,e]at q;cases q
   rw[take_succ hg,if_neg e];simp
 have:k=t.rs.length:=by omega
 subst this
 have e1:(to0 t r).take t.rs.length++List.replicate (t.rs.length-t.rs.length) (0:Int)=to0 t r:=by
  rw[Nat.sub_self,List.replicate_zero,List.append_nil,←h0,List.take_length]
 rw[e1]
 refine⟨⟨0,rfl,by omega,rfl⟩,?_⟩
 rintro⟨_,_⟩ ⟨k,rfl,hk,rfl⟩
 simp only
 have hlen2:(rndD t k (to0 t r)).length=t.rs.length:=by rw[rndD_len,h0]
 rw[hlen2]
 refine⟨λc2=>⟨ForG.zero,?_⟩,λc2=>?_⟩
 ·rintro⟨j,d⟩ g
  simp only at g ⊢
  have hpos:0<t.rs.length:=by omega
  have hdl:d.length=t.rs.length:=by
   obtain⟨m,_,_,e⟩:=g
   rw[e,fold_rlx_len,hlen2]
  have hll:=(chk5_len h).2
  refine⟨λc3=>⟨g.idx,c3,λl hl=>?_⟩,λc3=>?_⟩
  ·obtain⟨a1,a2⟩:=plc6_rng (r:=l.a) hpos
   obtain⟨b1,b2⟩:=plc6_rng (r:=l.b) hpos
   generalize hea:plc6 t l.a=pa at a1 a2 ⊢
   generalize heb:plc6 t l.b=pb at b1 b2 ⊢
   refine⟨⟨range2 b1 (by omega),by omega,λx5 h5=>⟨λe=>⟨range2 a1 (by omega),by omega,λx6 h6=>⟨range2 b1 (by omega),by omega,λx7 h7=>⟨range2 a1 (by omega),by omega,λy8 h8=>?_⟩⟩⟩,λe=>?_⟩⟩,?_⟩
   ·rw[rlx1,getD_of h5,getD_of h6,if_pos e]
    rw[h5]at h7;cases h7;rfl
   ·rw[rlx1,getD_of h5,if_neg e]
   rintro d4 hd4
   have hl4:d4.length=t.rs.length:=by rw[hd4,rlx1_len];exact hdl
   refine⟨range2 a1 (by omega),by omega,λx9 h9=>⟨λe=>⟨range2 b1 (by omega),by omega,λx10 h10=>⟨range2 a1 (by omega),by omega,λx11 h11=>⟨range2 b1 (by omega),by omega,λy12 h12=>g.step (by omega) hl ?_⟩⟩⟩,λe=>g.step (by omega) hl ?_⟩⟩
   ·rw[rlx,hea,heb,←hd4,rlx1,getD_of h9,getD_of h10,if_pos e]
    rw[h9]at h11;cases h11;rfl
   ·rw[rlx,hea,heb,←hd4,rlx1,getD_of h9,if_neg e]
  ·rw[W_succ (n:=t.rs.length) (by omega) (by omega)]
   exact⟨⟨k+1,rfl,by omega,by rw[rndD];exact g.done c3⟩,by omega⟩
 ·have:k=t.rs.length:=by omega
  subst this
  rfl
def to6_c(t:Tpl)(to_:Int)(h:chk5 t=0):PC Tryd.prog:=⟨89,[(.a [(.s 2),(.s 5)]),.k],[.agg [.sl 2 (t.rs.map Rtr.v) false,.sl 5 (t.ls.map Lnk.v) false],.int to_],to6_e (to6 t to_),PSpec.of_ok λok=>(to6_p t to_ h ok).elim λI0 h=>h.elim λm0 h=>h.elim λI1 h=>h.elim λm1 h=>h.elim λI2 h=>h.elim λm2 h=>h.elim λI3 h=>mxP_of (sh:=(.s 1)) (enc:=to6_e) (a:=(to6_x t to_ I0 m0 I1 m1 I2 m2 I3).an) h (by kernel_rfl) (AV.pureB_ok rfl),fnB_ok (by kernel_rfl)⟩
def okN(t:Tpl)(d:List Int)(r q:Int):Bool:=decide (at6 t d q<1073741824) && (W ((prc5 t r q).1+at6 t d q)==at6 t d r)
def stp6(t:Tpl)(d:List Int)(r:Int):List Int:=if at6 t d r=1073741824∨at6 t d r=0 then []else(nea5 t r).filter (okN t d r)
theorem flatIf_len{α β:Type}{p:α→Bool}{g:α→β}:∀{l:List α},(l.flatMap λx=>if p x=true then [g x]else []).length≤l.length
 | []=>by simp
 | x::l=>by
  have:=flatIf_len (p:=p) (g:=g) (l:=l)
  have h1:(if p x=true then [g x]else []).length≤1:=by split<;>simp
  rw[List.flatMap_cons,List.length_append,List.length_cons]
  omega
theorem nea5_len{t:Tpl}{r:Int}:(nea5 t r).length≤t.rs.length:=flatIf_len (p:=λx:Rtr=>(prc5 t r x.id).2) (g:=Rtr.id)
def stp6_a(t:Tpl)(d:(List Int))(from_:Int):Prop:=okL [.agg [.sl 2 (t.rs.map Rtr.v) false,.sl 5 (t.ls.map Lnk.v) false],.sl 1 (d.map AV.int) false,.int from_]
def stp6_n0(t:Tpl)(d:(List Int))(from_:Int)(t0:Bool):NF:=⟨[(1,.k,.sl 1 (d.map AV.int) false),(2,.k,.int from_),(3,.k,.ref 0 0),(7,.k,.sl 0 [] true),(8,.k,.int (at6 t d from_)),(22,.k,.bool t0)],[.box (.agg [.sl 2 (t.rs.map Rtr.v) false,.sl 5 (t.ls.map Lnk.v) false])]⟩
def stp6_n1(t:Tpl)(d:(List Int))(from_:Int)(t1:Int×(List Int)):NF:=⟨[(1,.k,.sl 1 (d.map AV.int) false),(2,.k,.int from_),(3,.k,.ref 0 0),(7,.k,.vec 1),(8,.k,.int (at6 t d from_)),(9,.k,.sl 1 ((nea5 t from_).map AV.int) false),(10,.k,.int t1.1)],[.box (.agg [.sl 2 (t.rs.map Rtr.v) false,.sl 5 (t.ls.map Lnk.v) false]),.vec 1 (t1.2.map AV.int) (pureBL_map (λ_=>rfl) t1.2)]⟩
def stp6_n2(t:Tpl)(d:(List Int))(from_:Int)(t1:Int×(List Int))(t2:Bool):NF:=⟨[(1,.k,.sl 1 (d.map AV.int) false),(2,.k,.int from_),(3,.k,.ref 0 0),(7,.k,.vec 1),(8,.k,.int (at6 t d from_)),(9,.k,.sl 1 ((nea5 t from_).map AV.int) false),(10,.k,.int t1.1),(62,.k,.bool t2)],[.box (.agg [.sl 2 (t.rs.map Rtr.v) false,.sl 5 (t.ls.map Lnk.v) false]),.vec 1 (t1.2.map AV.int) (pureBL_map (λ_=>rfl) t1.2)]⟩
@[reducible] def stp6_s:Nat→Type
 | 0=>Bool
 | 1=>Int×(List Int)
 | 2=>Bool
 | _=>Unit
def stp6_e(r:(List Int)):AV:=.sl 1 (r.map AV.int) false
def stp6_x(t:Tpl)(d:(List Int))(from_:Int)(I0:Bool→Prop)(I1:Bool→(Int×(List Int))→Prop)(m1:Bool→(Int×(List Int))→Nat)(I2:Bool→Int×(List Int)→Int→Bool→Prop):Ax Tryd.prog stp6_s ((List Int)):=
 (.req 96 (okD t d) λh1 =>
(.callP (at6_c t d from_ h1)
(.pass (.join 0 (stp6_n0 t d from_) (λ(t0:Bool)=>I0 t0) (λb0=>(.br 176 ((at6 t d from_)==1073741824) (.bk 0 b0 ((true):Bool) [0])
(.bk 0 b0 (((at6 t d from_)==0):Bool) [0]))) λ(t0:Bool) =>
(.br 1 t0 (.ret ([]))
(.req 33 (t.rs.length≤1000) λh2 =>
(.callP (nea5_c t from_ h2)
(.cmdL (.nilT 7 1) (.loop 1 (stp6_n1 t d from_) (I1 t0) (m1 t0) (0,[]) [0,81] λ(t1:Int×(List Int)) b1 =>
(.br 66 (decide (t1.1<(((nea5 t from_).map AV.int).length:Int))) (.el 130 AV.int (nea5 t from_) (λR=>Rf ((nea5 t from_).map AV.int) (ck (decide (0≤t1.1)) (ck (decide (t1.1<((nea5 t from_).length:Int)))
(∀x3,(nea5 t from_)[t1.1.toNat]?=some x3 →
(R x3))))) λx3 =>
(.callP (prc5_c t from_ x3)
(.join 2 (stp6_n2 t d from_ t1) (λ(t2:Bool)=>I2 t0 t1 x3 t2) (λb2=>(.el 322 AV.int (nea5 t from_) (λR=>Rf ((nea5 t from_).map AV.int) (ck (decide (0≤t1.1)) (ck (decide (t1.1<((nea5 t from_).length:Int)))
(∀x4,(nea5 t from_)[t1.1.toNat]?=some x4 →
(R x4))))) λx4 =>
(.req 354 (okD t d) λh5 =>
(.callP (at6_c t d x4 h5)
(.br 402 (decide ((at6 t d x4)<1073741824)) (.el 482 AV.int (nea5 t from_) (λR=>Rf ((nea5 t from_).map AV.int) (ck (decide (0≤t1.1)) (ck (decide (t1.1<((nea5 t from_).length:Int)))
(∀x6,(nea5 t from_)[t1.1.toNat]?=some x6 →
(R x6))))) λx6 =>
(.req 514 (okD t d) λh7 =>
(.callP (at6_c t d x6 h7)
(.bk 2 b2 (((W (((prc5 t from_ x3).1)+(at6 t d x6)))==(at6 t d from_)):Bool) [0,1]))))
(.bk 2 b2 ((false):Bool) [0,1])))))) λ(t2:Bool) =>
(.br 2 t2 (.el 50 AV.int (nea5 t from_) (λR=>Rf ((nea5 t from_).map AV.int) (ck (decide (0≤t1.1)) (ck (decide (t1.1<((nea5 t from_).length:Int)))
(∀x8,(nea5 t from_)[t1.1.toNat]?=some x8 →
(R x8))))) λx8 =>
(.say (λR=>Rf (α:=List AV) (t1.2.map AV.int) (Rf (α:=List AV) [.int x8]
(ck (decide (t1.2.length+1≤1048576))
R))) (.app 98 AV.int t1.2 [x8]
(.bk 1 b1 (W (t1.1+1),t1.2++[x8]) [0,98]))))
(.bk 1 b1 (W (t1.1+1),t1.2) [0,1])))))
(.say (Rf (t1.2.map AV.int)) (.cmdL (.frzE 1 (t1.2.map AV.int) (pureBL_map (λ_=>rfl) t1.2)) (.ret (t1.2))))))))))))))
def stp6_vc(t:Tpl)(d:(List Int))(from_:Int)(I0:Bool→Prop)(I1:Bool→(Int×(List Int))→Prop)(m1:Bool→(Int×(List Int))→Nat)(I2:Bool→Int×(List Int)→Int→Bool→Prop)(r0:(List Int)):Prop:=(stp6_x t d from_ I0 I1 m1 I2).vp stp6_e r0
theorem stp6_p(t:Tpl)(d:List Int)(r:Int)(h:okD t d)(ok:stp6_a t d r):∃I0 I1 m1 I2,stp6_vc t d r I0 I1 m1 I2 (stp6 t d r):=by
 refine⟨λb=>b=decide (at6 t d r=1073741824∨at6 t d r=0),λ_ s=>ForX (nea5 t r) (λq=>if okN t d r q=true then [q]else []) s.1 s.2,λ_ s=>(nea5 t r).length-s.1.toNat,
  λ_ _ q b=>b=okN t d r q,?_⟩
 dsimp only[stp6_vc,stp6_x,stp6_s,Ax.vp,Ax.vc];simp only[vcU,rfU,List.length_map]
 have hn:=h.2
 have hl:=nea5_len (t:=t) (r:=r)
 refine⟨h,⟨λc=>by simp[eq_of_beq c],λc=>?_⟩,?_⟩
 ·have c:¬at6 t d r=1073741824:=by simpa using c
  rw[Bool.eq_iff_iff];simp[c]
 rintro _ rfl
 refine⟨λc=>by rw[stp6,if_pos (of_decide_eq_true c)],λc=>⟨hn,ForX.zero,?_⟩⟩
 have c:=of_decide_eq_false c
 rintro⟨i,out⟩ g
 simp only at g ⊢
 have hlen:=g.len (b:=1) λx _=>by split<;>simp
 refine⟨λe=>⟨g.idx,e,λx hx=>⟨⟨g.idx,e,λy hy=>⟨h,λe1=>⟨g.idx,e,λz hz=>⟨h,?_⟩⟩,λe1=>?_⟩⟩,?_⟩⟩,λe=>?_⟩
 ·rw[hx]at hy hz;cases hy;cases hz
  rw[okN,decide_eq_true e1];rfl
 ·rw[hx]at hy;cases hy
  rw[okN,decide_eq_false e1];rfl
 ·rintro _ rfl
  refine⟨λe1=>⟨g.idx,e,λz hz=>⟨by omega,?_⟩⟩,λe1=>g.step (by omega) hx (by rw[if_neg (by rw[e1];simp)];simp)⟩
  rw[hx]at hz;cases hz
  exact g.step (by omega) hx (by rw[if_pos e1])
 ·rw[stp6,if_neg c,g.done e,flatMap_if]
def stp6_c(t:Tpl)(d:(List Int))(from_:Int)(h:okD t d):PC Tryd.prog:=⟨90,[(.a [(.s 2),(.s 5)]),(.s 1),.k],[.agg [.sl 2 (t.rs.map Rtr.v) false,.sl 5 (t.ls.map Lnk.v) false],.sl 1 (d.map AV.int) false,.int from_],stp6_e (stp6 t d from_),PSpec.of_ok λok=>(stp6_p t d from_ h ok).elim λI0 h=>h.elim λI1 h=>h.elim λm1 h=>h.elim λI2 h=>mxP_of (sh:=(.s 1)) (enc:=stp6_e) (a:=(stp6_x t d from_ I0 I1 m1 I2).an) h (by kernel_rfl) (AV.pureB_ok rfl),fnB_ok (by kernel_rfl)⟩
theorem prc5_pos{t:Tpl}(h:chk5 t=0){f g:Int}(hp:(prc5 t f g).2=true):1≤(prc5 t f g).1∧(prc5 t f g).1≤1000:=by
 unfold prc5 at hp ⊢
 cases e:t.ls.find? (prcH f g)with
 | none=>rw[e]at hp;cases hp
 | some l =>
  have hl:=chk5_ls h l (List.mem_of_find?_eq_some e)
  have h1:=cst5_iff.mp hl.1
  have h2:=cst5_iff.mp hl.2.1
  simp only
  split<;>omega
theorem at6_nn{t:Tpl}{d:List Int}(h:∀x∈d,0≤x)(r:Int):0≤at6 t d r:=by
 unfold at6
 split
 ·exact getD_nn h _
 ·omega
theorem stp6_lt{t:Tpl}(h:chk5 t=0){d:List Int}(hd:∀x∈d,0≤x){f q:Int}(hq:q∈stp6 t d f):at6 t d q<at6 t d f∧∃x∈t.rs,x.id=q:=by
 unfold stp6 at hq
 split at hq
 ·cases hq
 obtain⟨h1,h2⟩:=List.mem_filter.mp hq
 obtain⟨x,hx,hx2⟩:=List.mem_flatMap.mp h1
 have hp:(prc5 t f x.id).2=true∧q=x.id:=by
  by_cases c:(prc5 t f x.id).2=true
  ·rw[if_pos c,List.mem_singleton]at hx2;exact⟨c,hx2⟩
  ·rw[if_neg c]at hx2;cases hx2
 obtain⟨hp,rfl⟩:=hp
 obtain⟨p1,p2⟩:=prc5_pos h hp
 rw[okN,Bool.and_eq_true,decide_eq_true_eq,beq_iff_eq]at h2
 have h0:=at6_nn (t:=t) hd x.id
 have:=h2.2
 rw[W_eq (by omega)]at this
 exact⟨by omega,x,hx,rfl⟩
def nrr(t:Tpl)(d:List Int)(f:Int):Nat:=(t.rs.filter λx=>decide (at6 t d x.id<at6 t d f)).length
theorem filter_lt{α:Type}{p q:α→Bool}:∀{l:List α} {x:α},(∀y,p y=true→q y=true)→x∈l→p x=false→q x=true→(l.filter p).length<(l.filter q).length
 | y::l,x,h,hx,h1,h2=>by
  have hle:∀l:List α,(l.filter p).length≤(l.filter q).length:=by
   intro l
   induction l with
   | nil=>simp
   | cons z l ih =>
    rw[List.filter_cons,List.filter_cons]
    by_cases c:p z=true
    ·rw[if_pos c,if_pos (h z c)];simp only[List.length_cons];omega
    ·rw[if_neg c];split
     ·simp only[List.length_cons];omega
     ·exact ih
  rw[List.filter_cons,List.filter_cons]
  rcases List.mem_cons.mp hx with rfl|hx
  ·rw[if_neg (by rw[h1];simp),if_pos h2]
   have:=hle l
   simp only[List.length_cons];omega
  ·have:=filter_lt h hx h1 h2
   by_cases c:p y=true
   ·rw[if_pos c,if_pos (h y c)];simp only[List.length_cons];omega
   ·rw[if_neg c];split
    ·simp only[List.length_cons];omega
    ·exact this
theorem nrr_lt{t:Tpl}(h:chk5 t=0){d:List Int}(hd:∀x∈d,0≤x){f q:Int}(hq:q∈stp6 t d f):nrr t d q<nrr t d f:=by
 obtain⟨h1,x,hx,rfl⟩:=stp6_lt h hd hq
 exact filter_lt (x:=x) (λy hy=>by rw[decide_eq_true_eq]at hy ⊢;omega) hx (decide_eq_false (by omega)) (decide_eq_true h1)
def rouL(t:Tpl)(d:List Int)(g:Int):Nat→Int→List Int→List Int
 | 0,_,_=>[]
 | n+1,f,out=>if f=g then out else match stp6 t d f with
  | []=>[]
  | q::_=>rouL t d g n q (out++[q])
def rou6(t:Tpl)(f g:Int):List Int:=if hs5 t f=false∨hs5 t g=false then []else rouL t (to6 t g) g 25 f []
theorem rouL_len{t:Tpl}{d:List Int}{g:Int}:∀{n:Nat} {f:Int} {out:List Int},(rouL t d g n f out).length≤out.length+n
 | 0,f,out=>by simp[rouL]
 | n+1,f,out=>by
  rw[rouL]
  split
  ·omega
  split
  ·simp
  ·rename_i q _ _
   have:=rouL_len (t:=t) (d:=d) (g:=g) (n:=n) (f:=q) (out:=out++[q])
   rw[List.length_append,List.length_singleton]at this
   omega
theorem rou6_len(t:Tpl)(f g:Int):(rou6 t f g).length≤25:=by
 unfold rou6
 split
 ·simp
 ·have:=rouL_len (t:=t) (d:=to6 t g) (g:=g) (n:=25) (f:=f) (out:=[])
  simpa using this
def rou6_a(t:Tpl)(from_:Int)(to_:Int):Prop:=okL [.agg [.sl 2 (t.rs.map Rtr.v) false,.sl 5 (t.ls.map Lnk.v) false],.int from_,.int to_]
def rou6_n0(t:Tpl)(from_:Int)(to_:Int)(t0:Bool):NF:=⟨[(1,.k,.int from_),(2,.k,.int to_),(3,.k,.ref 0 0),(19,.k,.bool t0)],[.box (.agg [.sl 2 (t.rs.map Rtr.v) false,.sl 5 (t.ls.map Lnk.v) false])]⟩
def rou6_n1(t:Tpl)(to_:Int)(t1:Int×(List Int)):NF:=⟨[(1,.k,.int t1.1),(2,.k,.int to_),(3,.k,.ref 0 0),(7,.k,.sl 1 ((to6 t to_).map AV.int) false),(8,.k,.vec 1)],[.box (.agg [.sl 2 (t.rs.map Rtr.v) false,.sl 5 (t.ls.map Lnk.v) false]),.vec 1 (t1.2.map AV.int) (pureBL_map (λ_=>rfl) t1.2)]⟩
@[reducible] def rou6_s:Nat→Type
 | 0=>Bool
 | 1=>Int×(List Int)
 | _=>Unit
def rou6_e(r:(List Int)):AV:=.sl 1 (r.map AV.int) false
def rou6_x(t:Tpl)(from_:Int)(to_:Int)(I0:Bool→Prop)(I1:Bool→(Int×(List Int))→Prop)(m1:Bool→(Int×(List Int))→Nat):Ax Tryd.prog rou6_s ((List Int)):=
 (.pass (.pass (.join 0 (rou6_n0 t from_ to_) (λ(t0:Bool)=>I0 t0) (λb0=>(.callP (hs5_c t from_)
(.br 112 (!(hs5 t from_)) (.bk 0 b0 ((true):Bool) [0])
(.callP (hs5_c t to_)
(.bk 0 b0 ((!(hs5 t to_)):Bool) [0]))))) λ(t0:Bool) =>
(.br 1 t0 (.ret ([]))
(.req 33 (chk5 t=0) λh1 =>
(.callP (to6_c t to_ h1)
(.cmdL (.nilT 8 1) (.loop 1 (rou6_n1 t to_) (I1 t0) (m1 t0) (from_,[]) [0,81] λ(t1:Int×(List Int)) b1 =>
(.br 50 (t1.1 != to_) (.req 98 (okD t (to6 t to_)) λh2 =>
(.callP (stp6_c t (to6 t to_) t1.1 h2)
(.br 178 ((((stp6 t (to6 t to_) t1.1).map AV.int).length:Int)==0) (.ret ([]))
(.el 194 AV.int (stp6 t (to6 t to_) t1.1) (λR=>Rf ((stp6 t (to6 t to_) t1.1).map AV.int) (ck (decide (0<((stp6 t (to6 t to_) t1.1).length:Int)))
(∀x3,(stp6 t (to6 t to_) t1.1)[0]?=some x3 →
(R x3)))) λx3 =>
(.say (λR=>Rf (α:=List AV) (t1.2.map AV.int) (Rf (α:=List AV) [.int x3]
(ck (decide (t1.2.length+1≤1048576))
R))) (.app 290 AV.int t1.2 [x3]
(.bk 1 b1 (x3,t1.2++[x3]) [0,290])))))))
(.say (Rf (t1.2.map AV.int)) (.cmdL (.frzE 1 (t1.2.map AV.int) (pureBL_map (λ_=>rfl) t1.2)) (.ret (t1.2)))))))))))))
def rou6_vc(t:Tpl)(from_:Int)(to_:Int)(I0:Bool→Prop)(I1:Bool→(Int×(List Int))→Prop)(m1:Bool→(Int×(List Int))→Nat)(r0:(List Int)):Prop:=(rou6_x t from_ to_ I0 I1 m1).vp rou6_e r0
theorem rou6_p(t:Tpl)(f g:Int)(ok:rou6_a t f g):∃I0 I1 m1,rou6_vc t f g I0 I1 m1 (rou6 t f g):=by
 refine⟨λb=>b=decide (hs5 t f=false∨hs5 t g=false),λ_ s=>∃k:Nat,nrr t (to6 t g) s.1<k∧s.2.length+k≤25∧rouL t (to6 t g) g k s.1 s.2=rou6 t f g,λ_ s=>nrr t (to6 t g) s.1,?_⟩
 dsimp only[rou6_vc,rou6_x,rou6_s,Ax.vp,Ax.vc];simp only[vcU,rfU,List.length_map]
 refine⟨⟨λc=>?_,λc=>?_⟩,?_⟩
 ·have c:hs5 t f=false:=by simpa using c
  simp[c]
 ·have c:hs5 t f=true:=by simpa using c
  cases q:hs5 t g<;>simp[c]
 rintro _ rfl
 refine⟨λc=>by rw[rou6,if_pos (of_decide_eq_true c)],λc=>?_⟩
 have c:=of_decide_eq_false c
 have hc:chk5 t=0:=by
  refine Classical.byContradiction λq=>c (.inl ?_)
  rw[hs5,beq_eq_false_iff_ne.mpr q];rfl
 have hlen:=chk5_len hc
 have hD:okD t (to6 t g):=⟨to6_len,by omega⟩
 refine⟨hc,⟨25,?_,by simp,by rw[rou6,if_neg c]⟩,?_⟩
 ·have:=List.length_filter_le (λx:Rtr=>decide (at6 t (to6 t g) x.id<at6 t (to6 t g) f)) t.rs
  unfold nrr;omega
 rintro⟨x,out⟩ ⟨k,hk,hl,hr⟩
 simp only at hk hl hr ⊢
 obtain⟨k,rfl⟩:∃j,k=j+1:=⟨k-1,by omega⟩
 rw[rouL]at hr
 refine⟨λe=>⟨hD,λe1=>?_,λe1=>⟨by have:(stp6 t (to6 t g) x).length≠0:=(by intro q;rw[q]at e1;simp at e1);omega,λy hy=>⟨by omega,?_⟩⟩⟩,λe=>?_⟩
 ·have e:¬x=g:=by simpa using e
  rw[if_neg e]at hr
  have:stp6 t (to6 t g) x=[]:=List.eq_nil_of_length_eq_zero (by have:=eq_of_beq e1;omega)
  rw[this]at hr;exact hr
 ·have e:¬x=g:=by simpa using e
  rw[if_neg e]at hr
  have hm:=nrr_lt hc (to6_nn hc) (mem_of_get hy)
  refine⟨⟨k,by omega,by simp;omega,?_⟩,hm⟩
  cases q:stp6 t (to6 t g) x with
  | nil=>rw[q]at hy;cases hy
  | cons z r =>
   rw[q]at hy hr;cases hy;exact hr
 ·have e:x=g:=by simpa using e
  rw[if_pos e]at hr;exact hr
def rou6_c(t:Tpl)(from_:Int)(to_:Int):PC Tryd.prog:=⟨79,[(.a [(.s 2),(.s 5)]),.k,.k],[.agg [.sl 2 (t.rs.map Rtr.v) false,.sl 5 (t.ls.map Lnk.v) false],.int from_,.int to_],rou6_e (rou6 t from_ to_),PSpec.of_ok λok=>(rou6_p t from_ to_ ok).elim λI0 h=>h.elim λI1 h=>h.elim λm1 h=>mxP_of (sh:=(.s 1)) (enc:=rou6_e) (a:=(rou6_x t from_ to_ I0 I1 m1).an) h (by kernel_rfl) (AV.pureB_ok rfl),fnB_ok (by kernel_rfl)⟩
theorem wrap_u64{n:Nat}(h:n<18446744073709551616):IntKind.u64.wrap (n:Int)=n:=by
 unfold IntKind.wrap
 simp[IntKind.bits,IntKind.signed]
 omega
theorem bv64{n:Nat}(h:n<18446744073709551616):(BitVec.ofInt 64 (n:Int)).toNat=n:=by
 rw[BitVec.ofInt_natCast,BitVec.toNat_ofNat];exact Nat.mod_eq_of_lt h
theorem bAnd_nat{a b:Nat}(ha:a<18446744073709551616)(hb:b<18446744073709551616):bAnd .u64 (a:Int) (b:Int)=((a &&& b:Nat):Int):=by
 have e:((BitVec.ofInt 64 (a:Int)) &&& (BitVec.ofInt 64 (b:Int))).toNat=a &&& b:=by rw[BitVec.toNat_and,bv64 ha,bv64 hb]
 unfold bAnd
 rw[show IntKind.u64.bits=64 from rfl,e]
 exact wrap_u64 (Nat.lt_of_le_of_lt Nat.and_le_left ha)
theorem bOr_nat{a b:Nat}(ha:a<18446744073709551616)(hb:b<18446744073709551616):bOr .u64 (a:Int) (b:Int)=((a ||| b:Nat):Int):=by
 have e:((BitVec.ofInt 64 (a:Int)) ||| (BitVec.ofInt 64 (b:Int))).toNat=a ||| b:=by rw[BitVec.toNat_or,bv64 ha,bv64 hb]
 unfold bOr
 rw[show IntKind.u64.bits=64 from rfl,e]
 exact wrap_u64 (Nat.or_lt_two_pow (n:=64) ha hb)
theorem shlI_one{b:Nat}(h:b<64):shlI .u64 1 (b:Int)=((2 ^ b:Nat):Int):=by
 unfold shlI
 rw[Int.toNat_natCast,show Nat.min b IntKind.u64.bits=b from Nat.min_eq_left (Nat.le_of_lt h),Int.one_mul,←wrap_u64 (n:=2 ^ b) (Nat.pow_lt_pow_right (by omega) h)]
 congr 1
theorem shrI_nat{a b:Nat}(h:b<64):shrI .u64 (a:Int) (b:Int)=((a / 2 ^ b:Nat):Int):=by
 unfold shrI
 rw[Int.toNat_natCast,show Nat.min b IntKind.u64.bits=b from Nat.min_eq_left (Nat.le_of_lt h),Int.fdiv_eq_ediv_of_nonneg _ (by exact Int.pow_nonneg (by decide)),Int.natCast_ediv,Int.natCast_pow]
 rfl
theorem bit_eq{a b:Nat}(ha:a<18446744073709551616)(h:b<64):(bAnd .u64 (shrI .u64 (a:Int) (b:Int)) 1==1)=a.testBit b:=by
 rw[shrI_nat h,show(1:Int)=((1:Nat):Int)from rfl,bAnd_nat (Nat.lt_of_le_of_lt (Nat.div_le_self _ _) ha) (by decide),Nat.and_one_is_mod,Nat.testBit_eq_decide_div_mod_eq]
 rw[Bool.eq_iff_iff,beq_iff_eq,decide_eq_true_eq]
 omega
def vlenP(n:Int):Bool:=decide (n=8∨n=16∨n=32∨n=64)
theorem vlenP_iff{n:Int}:vlenP n=true↔n=8∨n=16∨n=32∨n=64:=decide_eq_true_iff
structure Pkt where
  mode:Int
  sub:Int
  set:Int
  len:Int
  ttl:Int
  ent:Int
  ing:Int
  proto:Int
  bits:Int
  pay:ByteArray
  deriving DecidableEq
abbrev vlenR:=vlenP
def vlenR_a(n:Int):Prop:=okL [.int n]
def vlenR_e(r:Bool):AV:=.bool r
def vlenR_x(n:Int):Ax Tryd.prog noS (Bool):=
 (.br 64 (n==8) (.ret (true))
(.br 128 (n==16) (.ret (true))
(.br 192 (n==32) (.ret (true))
(.ret (n==64)))))
def vlenR_vc(n:Int)(r0:Bool):Prop:=(vlenR_x n).vp vlenR_e r0
theorem vlenR_p(n:Int)(ok:vlenR_a n):vlenR_vc n (vlenR n):=by
 dsimp only[vlenR_vc,vlenR_x,noS,Ax.vp,Ax.vc];simp only[vcU,rfU,List.length_map]
 refine⟨λc=>?_,λc=>⟨λd=>?_,λd=>⟨λe=>?_,λe=>?_⟩⟩⟩
 ·rw[vlenR,vlenP,decide_eq_true (.inl (eq_of_beq c))]
 ·rw[vlenR,vlenP,decide_eq_true (.inr (.inl (eq_of_beq d)))]
 ·rw[vlenR,vlenP,decide_eq_true (.inr (.inr (.inl (eq_of_beq e))))]
 ·have c:¬n=8:=by simpa using c
  have d:¬n=16:=by simpa using d
  have e:¬n=32:=by simpa using e
  rw[vlenR,vlenP,Bool.eq_iff_iff,beq_iff_eq,decide_eq_true_eq]
  simp[c,d,e]
def vlenR_c(n:Int):PC Tryd.prog:=⟨87,[.k],[.int n],vlenR_e (vlenP n),PSpec.of_ok λok=>mxP_of (sh:=.k) (enc:=vlenR_e) (a:=(vlenR_x n).an) (vlenR_p n ok) (by kernel_rfl) (AV.pureB_ok rfl),fnB_ok (by kernel_rfl)⟩
def inK(n most:Int):Bool:=decide (0≤n) && decide (n≤most)
def fullP(len:Int):Int:=if vlenP len=true then shrI .u64 18446744073709551615 (64-len)else 0
def vbtP(b len:Int):Bool:=vlenP len && (bAndn .u64 b (fullP len)==0)
def pktB(p:Pkt):Bool:=decide (1≤p.mode) && (decide (p.mode≤3) && (inK p.sub 7 && (inK p.set 31 && (vbtP p.bits p.len && (inK p.ttl 63 && (inK p.ent 1023 && (inK p.ing 256 && (inK p.proto 7 && decide ((p.pay.size:Int)≤64)))))))))
def bitR(k:Int):Int:=if k<0∨63<k then 0 else shlI .u64 1 k
def bitR_a(k:Int):Prop:=okL [.int k]
def bitR_n0(k:Int)(t0:Bool):NF:=⟨[(0,.k,.int k),(8,.k,.bool t0)],[]⟩
@[reducible] def bitR_s:Nat→Type
 | 0=>Bool
 | _=>Unit
def bitR_e(r:Int):AV:=.val (.int .u64 r)
def bitR_x(k:Int)(I0:Bool→Prop):Ax Tryd.prog bitR_s (Int):=
 (.pass (.pass (.join 0 (bitR_n0 k) (λ(t0:Bool)=>I0 t0) (λb0=>(.br 64 (decide (k<0)) (.bk 0 b0 ((true):Bool) [])
(.bk 0 b0 ((decide (63<k)):Bool) []))) λ(t0:Bool) =>
(.br 0 t0 (.ret (0))
(.say (ck (decide (0≤(IntKind.u64.wrap k)))) (.ret (shlI .u64 1 (IntKind.u64.wrap k))))))))
def bitR_vc(k:Int)(I0:Bool→Prop)(r0:Int):Prop:=(bitR_x k I0).vp bitR_e r0
theorem bitR_p(k:Int)(ok:bitR_a k):∃I,bitR_vc k I (bitR k):=by
 refine⟨λb=>b=decide (k<0∨63<k),?_⟩
 dsimp only[bitR_vc,bitR_x,bitR_s,Ax.vp,Ax.vc];simp only[vcU,rfU,List.length_map]
 refine⟨⟨λc=>by simp[c],λc=>by simp[c]⟩,?_⟩
 rintro _ rfl
 refine⟨λc=>?_,λc=>?_⟩
 ·rw[bitR,if_pos (of_decide_eq_true c)]
 ·have c:=of_decide_eq_false c
  have:=wrap_u64 (n:=k.toNat) (by omega)
  rw[Int.toNat_of_nonneg (by omega)]at this
  rw[this,bitR,if_neg c]
  exact⟨by omega,rfl⟩
def bitR_c(k:Int):PC Tryd.prog:=⟨99,[.k],[.int k],bitR_e (bitR k),PSpec.of_ok λok=>(bitR_p k ok).elim λI0 h=>mxP_of (sh:=.k) (enc:=bitR_e) (a:=(bitR_x k I0).an) h (by kernel_rfl) (AV.pureB_ok rfl),fnB_ok (by kernel_rfl)⟩
abbrev insK:=inK
def insK_a(n:Int)(most:Int):Prop:=okL [.int n,.int most]
def insK_e(r:Bool):AV:=.bool r
def insK_x(n:Int)(most:Int):Ax Tryd.prog noS (Bool):=
 (.br 64 (decide (0≤n)) (.ret (decide (n≤most)))
(.ret (false)))
def insK_vc(n:Int)(most:Int)(r0:Bool):Prop:=(insK_x n most).vp insK_e r0
theorem insK_p(n m:Int)(ok:insK_a n m):insK_vc n m (insK n m):=by
 dsimp only[insK_vc,insK_x,noS,Ax.vp,Ax.vc];simp only[vcU,rfU,List.length_map]
 refine⟨λc=>?_,λc=>?_⟩<;>simp[insK,inK,c]
def insK_c(n:Int)(most:Int):PC Tryd.prog:=⟨76,[.k,.k],[.int n,.int most],insK_e (inK n most),PSpec.of_ok λok=>mxP_of (sh:=.k) (enc:=insK_e) (a:=(insK_x n most).an) (insK_p n most ok) (by kernel_rfl) (AV.pureB_ok rfl),fnB_ok (by kernel_rfl)⟩
def fullR_a(length:Int):Prop:=okL [.int length]
def fullR_n0(length:Int)(t0:Int×Int):NF:=⟨[(0,.k,.int length),(3,.k,.val (.int .u64 t0.1)),(4,.k,.int t0.2)],[]⟩
@[reducible] def fullR_s:Nat→Type
 | 0=>Int×Int
 | _=>Unit
def fullR_e(r:Int):AV:=.val (.int .u64 r)
def fullR_x(length:Int)(I0:(Int×Int)→Prop)(m0:(Int×Int)→Nat):Ax Tryd.prog fullR_s (Int):=
 (.callP (vlenR_c length)
(.br 64 (!(vlenP length)) (.ret (0))
(.loop 0 (fullR_n0 length) I0 m0 (0,0) [] λ(t0:Int×Int) b0 =>
(.br 48 (decide (t0.2<length)) (.callP (bitR_c t0.2)
(.bk 0 b0 (bOr .u64 t0.1 (bitR t0.2),W (t0.2+1)) []))
(.ret (t0.1))))))
def fullR_vc(length:Int)(I0:(Int×Int)→Prop)(m0:(Int×Int)→Nat)(r0:Int):Prop:=(fullR_x length I0 m0).vp fullR_e r0
theorem or_pow:∀k<64,(2 ^ k-1) ||| 2 ^ k=2 ^ (k+1)-1:=by decide +kernel
theorem fullR_p(len:Int)(ok:fullR_a len):∃I m,fullR_vc len I m (fullP len):=by
 refine⟨λt=>∃k:Nat,t.2=k∧k≤len.toNat∧t.1=((2 ^ k-1:Nat):Int),λt=>len.toNat-t.2.toNat,?_⟩
 dsimp only[fullR_vc,fullR_x,fullR_s,Ax.vp,Ax.vc];simp only[vcU,rfU,List.length_map]
 refine⟨λc=>?_,λc=>⟨⟨0,rfl,by omega,rfl⟩,?_⟩⟩
 ·have c:vlenP len=false:=by simpa using c
  rw[fullP,if_neg (by rw[c];simp)]
 have c:vlenP len=true:=by simpa using c
 have hv:=vlenP_iff.mp c
 rintro⟨b,_⟩ ⟨k,rfl,hk,rfl⟩
 simp only at hk ⊢
 refine⟨λd=>?_,λd=>?_⟩
 ·have h2:2 ^ k-1<18446744073709551616:=Nat.lt_of_le_of_lt (Nat.sub_le _ _) (Nat.pow_lt_pow_right (n:=64) (by omega) (by omega))
  have h3:2 ^ k<18446744073709551616:=Nat.pow_lt_pow_right (n:=64) (by omega) (by omega)
  rw[W_succ (n:=len.toNat) (by omega) (by omega),bitR,if_neg (by omega),shlI_one (by omega),bOr_nat h2 h3,or_pow k (by omega)]
  exact⟨⟨k+1,rfl,by omega,rfl⟩,by omega⟩
 ·have:(k:Int)=len:=by omega
  subst this
  rw[fullP,if_pos c]
  have hk:k=8∨k=16∨k=32∨k=64:=by omega
  rcases hk with rfl|rfl|rfl|rfl<;>decide +kernel
def fullR_c(length:Int):PC Tryd.prog:=⟨88,[.k],[.int length],fullR_e (fullP length),PSpec.of_ok λok=>(fullR_p length ok).elim λI0 h=>h.elim λm0 h=>mxP_of (sh:=.k) (enc:=fullR_e) (a:=(fullR_x length I0 m0).an) h (by kernel_rfl) (AV.pureB_ok rfl),fnB_ok (by kernel_rfl)⟩
abbrev vbtR:=vbtP
def vbtR_a(b:Int)(length:Int):Prop:=okL [.val (.int .u64 b),.int length]
def vbtR_e(r:Bool):AV:=.bool r
def vbtR_x(b:Int)(length:Int):Ax Tryd.prog noS (Bool):=
 (.callP (vlenR_c length)
(.br 64 (vlenP length) (.callP (fullR_c length)
(.ret ((bAndn .u64 b (fullP length))==0)))
(.ret (false))))
def vbtR_vc(b:Int)(length:Int)(r0:Bool):Prop:=(vbtR_x b length).vp vbtR_e r0
theorem vbtR_p(b len:Int)(ok:vbtR_a b len):vbtR_vc b len (vbtR b len):=by
 dsimp only[vbtR_vc,vbtR_x,noS,Ax.vp,Ax.vc];simp only[vcU,rfU,List.length_map]
 refine⟨λc=>?_,λc=>?_⟩<;>rw[vbtR,vbtP,c]<;>rfl
def vbtR_c(b:Int)(length:Int):PC Tryd.prog:=⟨77,[.k,.k],[.val (.int .u64 b),.int length],vbtR_e (vbtP b length),PSpec.of_ok λok=>mxP_of (sh:=.k) (enc:=vbtR_e) (a:=(vbtR_x b length).an) (vbtR_p b length ok) (by kernel_rfl) (AV.pureB_ok rfl),fnB_ok (by kernel_rfl)⟩
def vpkR_a(p:Pkt):Prop:=okL [.agg [.int p.mode,.int p.sub,.int p.set,.int p.len,.int p.ttl,.int p.ent,.int p.ing,.int p.proto,.val (.int .u64 p.bits),.str p.pay]]
def vpkR_e(r:Bool):AV:=.bool r
def vpkR_x(p:Pkt):Ax Tryd.prog noS (Bool):=
 (.br 96 (decide (1≤p.mode)) (.br 176 (decide (p.mode≤3)) (.callP (insK_c p.sub 7)
(.br 256 (inK p.sub 7) (.callP (insK_c p.set 31)
(.br 336 (inK p.set 31) (.callP (vbtR_c p.bits p.len)
(.br 448 (vbtP p.bits p.len) (.callP (insK_c p.ttl 63)
(.br 528 (inK p.ttl 63) (.callP (insK_c p.ent 1023)
(.br 608 (inK p.ent 1023) (.callP (insK_c p.ing 256)
(.br 688 (inK p.ing 256) (.callP (insK_c p.proto 7)
(.br 768 (inK p.proto 7) (.ret (decide ((p.pay.size:Int)≤64)))
(.ret (false))))
(.ret (false))))
(.ret (false))))
(.ret (false))))
(.ret (false))))
(.ret (false))))
(.ret (false))))
(.ret (false)))
(.ret (false)))
def vpkR_vc(p:Pkt)(r0:Bool):Prop:=(vpkR_x p).vp vpkR_e r0
theorem vpkR_p(p:Pkt)(ok:vpkR_a p):vpkR_vc p (pktB p):=by
 dsimp only[vpkR_vc,vpkR_x,noS,Ax.vp,Ax.vc];simp only[vcU,rfU,List.length_map]
 unfold pktB
 by_cases h1:1≤p.mode<;>by_cases h2:p.mode≤3<;>cases inK p.sub 7<;>cases inK p.set 31<;>cases vbtP p.bits p.len<;>cases inK p.ttl 63<;>cases inK p.ent 1023<;>cases inK p.ing 256<;>cases inK p.proto 7<;>simp[h1,h2]
def vpkR_c(p:Pkt):PC Tryd.prog:=⟨53,[.k],[.agg [.int p.mode,.int p.sub,.int p.set,.int p.len,.int p.ttl,.int p.ent,.int p.ing,.int p.proto,.val (.int .u64 p.bits),.str p.pay]],vpkR_e (pktB p),PSpec.of_ok λok=>mxP_of (sh:=.k) (enc:=vpkR_e) (a:=(vpkR_x p).an) (vpkR_p p ok) (by kernel_rfl) (AV.pureB_ok rfl),fnB_ok (by kernel_rfl)⟩
structure Adj where
  bit:Int
  router:Int
  kind:Int
  to:Int
  deriving DecidableEq
structure Eng where
  len:Int
  list:List Adj
  deriving DecidableEq
def Adj.v(x:Adj):AV:=.agg [.int x.bit,.int x.router,.int x.kind,.int x.to]
def Eng.v(x:Eng):AV:=.agg [.int x.len,.sl 4 (x.list.map Adj.v) false]
abbrev vlen30:=vlenP
def vlen30_a(n:Int):Prop:=okL [.int n]
def vlen30_e(r:Bool):AV:=.bool r
def vlen30_x(n:Int):Ax Tryd.prog noS (Bool):=
 (.br 64 (n==8) (.ret (true))
(.br 128 (n==16) (.ret (true))
(.br 192 (n==32) (.ret (true))
(.ret (n==64)))))
def vlen30_vc(n:Int)(r0:Bool):Prop:=(vlen30_x n).vp vlen30_e r0
theorem vlen30_p(n:Int)(ok:vlen30_a n):vlen30_vc n (vlen30 n):=by
 dsimp only[vlen30_vc,vlen30_x,noS,Ax.vp,Ax.vc];simp only[vcU,rfU,List.length_map]
 refine⟨λc=>?_,λc=>⟨λd=>?_,λd=>⟨λe=>?_,λe=>?_⟩⟩⟩
 ·rw[vlen30,vlenP,decide_eq_true (.inl (eq_of_beq c))]
 ·rw[vlen30,vlenP,decide_eq_true (.inr (.inl (eq_of_beq d)))]
 ·rw[vlen30,vlenP,decide_eq_true (.inr (.inr (.inl (eq_of_beq e))))]
 ·have c:¬n=8:=by simpa using c
  have d:¬n=16:=by simpa using d
  have e:¬n=32:=by simpa using e
  rw[vlen30,vlenP,Bool.eq_iff_iff,beq_iff_eq,decide_eq_true_eq]
  simp[c,d,e]
def vlen30_c(n:Int):PC Tryd.prog:=⟨71,[.k],[.int n],vlen30_e (vlenP n),PSpec.of_ok λok=>mxP_of (sh:=.k) (enc:=vlen30_e) (a:=(vlen30_x n).an) (vlen30_p n ok) (by kernel_rfl) (AV.pureB_ok rfl),fnB_ok (by kernel_rfl)⟩
def rtr30(n:Int):Bool:=decide (1≤n) && decide (n≤99)
def rtr30_a(n:Int):Prop:=okL [.int n]
def rtr30_e(r:Bool):AV:=.bool r
def rtr30_x(n:Int):Ax Tryd.prog noS (Bool):=
 (.br 64 (decide (1≤n)) (.ret (decide (n≤99)))
(.ret (false)))
def rtr30_vc(n:Int)(r0:Bool):Prop:=(rtr30_x n).vp rtr30_e r0
theorem rtr30_p(n:Int)(ok:rtr30_a n):rtr30_vc n (rtr30 n):=by
 dsimp only[rtr30_vc,rtr30_x,noS,Ax.vp,Ax.vc];simp only[vcU,rfU,List.length_map]
 refine⟨λc=>?_,λc=>?_⟩<;>simp[rtr30,c]
def rtr30_c(n:Int):PC Tryd.prog:=⟨73,[.k],[.int n],rtr30_e (rtr30 n),PSpec.of_ok λok=>mxP_of (sh:=.k) (enc:=rtr30_e) (a:=(rtr30_x n).an) (rtr30_p n ok) (by kernel_rfl) (AV.pureB_ok rfl),fnB_ok (by kernel_rfl)⟩
def vEng_a(e:Eng):Prop:=okL [.agg [.int e.len,.sl 4 (e.list.map Adj.v) false]]
def vEng_n0(e:Eng)(t0:Bool×Int):NF:=⟨[(1,.k,.ref 0 0),(3,.k,.bool t0.1),(19,.k,.sl 4 (e.list.map Adj.v) false),(20,.k,.int ((e.list.map Adj.v).length:Int)),(21,.k,.int t0.2)],[.box (.agg [.int e.len,.sl 4 (e.list.map Adj.v) false])]⟩
def vEng_n1(e:Eng)(t1:Int):NF:=⟨[(1,.k,.ref 0 0),(52,.k,.sl 4 (e.list.map Adj.v) false),(53,.k,.int ((e.list.map Adj.v).length:Int)),(54,.k,.int t1)],[.box (.agg [.int e.len,.sl 4 (e.list.map Adj.v) false])]⟩
def vEng_n2(e:Eng)(t1:Int)(t2:Bool):NF:=⟨[(1,.k,.ref 0 0),(52,.k,.sl 4 (e.list.map Adj.v) false),(53,.k,.int ((e.list.map Adj.v).length:Int)),(54,.k,.int t1),(65,.k,.bool t2)],[.box (.agg [.int e.len,.sl 4 (e.list.map Adj.v) false])]⟩
def vEng_n3(e:Eng)(t3:Int):NF:=⟨[(1,.k,.ref 0 0),(68,.k,.sl 4 (e.list.map Adj.v) false),(69,.k,.int ((e.list.map Adj.v).length:Int)),(70,.k,.int t3)],[.box (.agg [.int e.len,.sl 4 (e.list.map Adj.v) false])]⟩
def vEng_n4(e:Eng)(t4:Int):NF:=⟨[(1,.k,.ref 0 0),(10,.k,.int t4)],[.box (.agg [.int e.len,.sl 4 (e.list.map Adj.v) false])]⟩
def vEng_n5(e:Eng)(t5:Int):NF:=⟨[(1,.k,.ref 0 0),(106,.k,.sl 4 (e.list.map Adj.v) false),(107,.k,.int ((e.list.map Adj.v).length:Int)),(108,.k,.int t5)],[.box (.agg [.int e.len,.sl 4 (e.list.map Adj.v) false])]⟩
def vEng_n6(e:Eng)(t5:Int)(x6:Adj)(t6:Int):NF:=⟨[(1,.k,.ref 0 0),(12,.k,.ref 1 0),(106,.k,.sl 4 (e.list.map Adj.v) false),(107,.k,.int ((e.list.map Adj.v).length:Int)),(108,.k,.int t5),(116,.k,.sl 4 (((e.list.take t5.toNat).drop 0).map Adj.v) false),(117,.k,.int ((((e.list.take t5.toNat).drop 0).map Adj.v).length:Int)),(118,.k,.int t6)],[.box (.agg [.int e.len,.sl 4 (e.list.map Adj.v) false]),.box (.agg [.int x6.bit,.int x6.router,.int x6.kind,.int x6.to])]⟩
def vEng_n7(e:Eng)(t5:Int)(x6:Adj)(t6:Int)(t7:Bool):NF:=⟨[(1,.k,.ref 0 0),(12,.k,.ref 1 0),(106,.k,.sl 4 (e.list.map Adj.v) false),(107,.k,.int ((e.list.map Adj.v).length:Int)),(108,.k,.int t5),(116,.k,.sl 4 (((e.list.take t5.toNat).drop 0).map Adj.v) false),(117,.k,.int ((((e.list.take t5.toNat).drop 0).map Adj.v).length:Int)),(118,.k,.int t6),(140,.k,.bool t7)],[.box (.agg [.int e.len,.sl 4 (e.list.map Adj.v) false]),.box (.agg [.int x6.bit,.int x6.router,.int x6.kind,.int x6.to])]⟩
@[reducible] def vEng_s:Nat→Type
 | 0=>Bool×Int
 | 1=>Int
 | 2=>Bool
 | 3=>Int
 | 4=>Int
 | 5=>Int
 | 6=>Int
 | 7=>Bool
 | _=>Unit
def vEng_e(r:Int):AV:=.int r
def vEng_x(e:Eng)(I0:(Bool×Int)→Prop)(m0:(Bool×Int)→Nat)(I1:Bool×Int→Int→Prop)(m1:Bool×Int→Int→Nat)(I2:Bool×Int→Int→Adj→Bool→Prop)(I3:Bool×Int→Int→Int→Prop)(m3:Bool×Int→Int→Int→Nat)(I4:Bool×Int→Int→Int→Int→Prop)(m4:Bool×Int→Int→Int→Int→Nat)(I5:Bool×Int→Int→Int→Int→Int→Prop)(m5:Bool×Int→Int→Int→Int→Int→Nat)(I6:Bool×Int→Int→Int→Int→Int→Adj→Int→Prop)(m6:Bool×Int→Int→Int→Int→Int→Adj→Int→Nat)(I7:Bool×Int→Int→Int→Int→Int→Adj→Int→Adj→Bool→Prop):Ax Tryd.prog vEng_s (Int):=
 (.callP (vlen30_c e.len)
(.loop 0 (vEng_n0 e) I0 m0 (vlenP e.len,0) [0] λ(t0:Bool×Int) b0 =>
(.br 17 (decide (t0.2<((e.list.map Adj.v).length:Int))) (.el 17 Adj.v e.list (λR=>Rf (e.list.map Adj.v) (ck (decide (0≤t0.2)) (ck (decide (t0.2<(e.list.length:Int)))
(∀x1,e.list[t0.2.toNat]?=some x1 →
(R x1))))) λx1 =>
(.br 113 t0.1 (.br 193 (decide (0≤x1.bit)) (.br 305 (decide (x1.bit<e.len)) (.callP (rtr30_c x1.router)
(.br 385 (rtr30 x1.router) (.callP (rtr30_c x1.to)
(.bk 0 b0 (rtr30 x1.to,W (t0.2+1)) [0]))
(.bk 0 b0 (false,W (t0.2+1)) [0])))
(.bk 0 b0 (false,W (t0.2+1)) [0]))
(.bk 0 b0 (false,W (t0.2+1)) [0]))
(.bk 0 b0 (false,W (t0.2+1)) [0])))
(.br 49 (!t0.1) (.ret (2))
(.loop 1 (vEng_n1 e) (I1 t0) (m1 t0) ((0):Int) [0] λ(t1:Int) b1 =>
(.br 17 (decide (t1<((e.list.map Adj.v).length:Int))) (.el 17 Adj.v e.list (λR=>Rf (e.list.map Adj.v) (ck (decide (0≤t1)) (ck (decide (t1<(e.list.length:Int)))
(∀x2,e.list[t1.toNat]?=some x2 →
(R x2))))) λx2 =>
(.join 2 (vEng_n2 e t1) (λ(t2:Bool)=>I2 t0 t1 x2 t2) (λb2=>(.br 145 (decide (x2.kind<1)) (.bk 2 b2 ((true):Bool) [0])
(.bk 2 b2 ((decide (3<x2.kind)):Bool) [0]))) λ(t2:Bool) =>
(.br 1 t2 (.ret (1))
(.bk 1 b1 ((W (t1+1)):Int) [0]))))
(.loop 3 (vEng_n3 e) (I3 t0 t1) (m3 t0 t1) ((0):Int) [0] λ(t3:Int) b3 =>
(.br 17 (decide (t3<((e.list.map Adj.v).length:Int))) (.el 17 Adj.v e.list (λR=>Rf (e.list.map Adj.v) (ck (decide (0≤t3)) (ck (decide (t3<(e.list.length:Int)))
(∀x3,e.list[t3.toNat]?=some x3 →
(R x3))))) λx3 =>
(.br 225 (!((x3.to==x3.router)==(x3.kind==3))) (.ret (8))
(.bk 3 b3 ((W (t3+1)):Int) [0])))
(.loop 4 (vEng_n4 e) (I4 t0 t1 t3) (m4 t0 t1 t3) ((1):Int) [0] λ(t4:Int) b4 =>
(.br 81 (decide (t4<((e.list.map Adj.v).length:Int))) (.el 145 Adj.v e.list (λR=>Rf (e.list.map Adj.v) (ck (decide (0≤(W (t4-1)))) (ck (decide ((W (t4-1))<(e.list.length:Int)))
(∀x4,e.list[(W (t4-1)).toNat]?=some x4 →
(R x4))))) λx4 =>
(.el 241 Adj.v e.list (λR=>Rf (e.list.map Adj.v) (ck (decide (0≤t4)) (ck (decide (t4<(e.list.length:Int)))
(∀x5,e.list[t4.toNat]?=some x5 →
(R x5))))) λx5 =>
(.br 305 (decide (x5.bit≤x4.bit)) (.ret (25))
(.bk 4 b4 ((W (t4+1)):Int) [0]))))
(.loop 5 (vEng_n5 e) (I5 t0 t1 t3 t4) (m5 t0 t1 t3 t4) ((0):Int) [0] λ(t5:Int) b5 =>
(.br 17 (decide (t5<((e.list.map Adj.v).length:Int))) (.el 33 Adj.v e.list (λR=>Rf (e.list.map Adj.v) (ck (decide (0≤t5)) (ck (decide (t5<(e.list.length:Int)))
(∀x6,e.list[t5.toNat]?=some x6 →
(R x6))))) λx6 =>
(.say (λR=>Rf (α:=List AV) (e.list.map Adj.v) (ck (bndB e.list.length 0 t5 (e.list.length:Int))
R)) (.sub 161 Adj.v e.list false
(.loop 6 (vEng_n6 e t5 x6) (I6 t0 t1 t3 t4 t5 x6) (m6 t0 t1 t3 t4 t5 x6) ((0):Int) [0,65] λ(t6:Int) b6 =>
(.br 18 (decide (t6<((((e.list.take t5.toNat).drop 0).map Adj.v).length:Int))) (.el 18 Adj.v ((e.list.take t5.toNat).drop 0) (λR=>Rf (((e.list.take t5.toNat).drop 0).map Adj.v) (ck (decide (0≤t6)) (ck (decide (t6<(((e.list.take t5.toNat).drop 0).length:Int)))
(∀x7,((e.list.take t5.toNat).drop 0)[t6.toNat]?=some x7 →
(R x7))))) λx7 =>
(.join 7 (vEng_n7 e t5 x6 t6) (λ(t7:Bool)=>I7 t0 t1 t3 t4 t5 x6 t6 x7 t7) (λb7=>(.br 178 (x6.router==x7.router) (.br 290 (x6.kind==x7.kind) (.bk 7 b7 ((x6.to==x7.to):Bool) [0,1])
(.bk 7 b7 ((false):Bool) [0,1]))
(.bk 7 b7 ((false):Bool) [0,1]))) λ(t7:Bool) =>
(.br 2 t7 (.ret (5))
(.bk 6 b6 ((W (t6+1)):Int) [0,1]))))
(.bk 5 b5 ((W (t5+1)):Int) [0]))))))
(.ret (0))))))))))))))
def vEng_vc(e:Eng)(I0:(Bool×Int)→Prop)(m0:(Bool×Int)→Nat)(I1:Bool×Int→Int→Prop)(m1:Bool×Int→Int→Nat)(I2:Bool×Int→Int→Adj→Bool→Prop)(I3:Bool×Int→Int→Int→Prop)(m3:Bool×Int→Int→Int→Nat)(I4:Bool×Int→Int→Int→Int→Prop)(m4:Bool×Int→Int→Int→Int→Nat)(I5:Bool×Int→Int→Int→Int→Int→Prop)(m5:Bool×Int→Int→Int→Int→Int→Nat)(I6:Bool×Int→Int→Int→Int→Int→Adj→Int→Prop)(m6:Bool×Int→Int→Int→Int→Int→Adj→Int→Nat)(I7:Bool×Int→Int→Int→Int→Int→Adj→Int→Adj→Bool→Prop)(r0:Int):Prop:=(vEng_x e I0 m0 I1 m1 I2 I3 m3 I4 m4 I5 m5 I6 m6 I7).vp vEng_e r0
def aR(len:Int)(a:Adj):Bool:=(decide (0≤a.bit) && decide (a.bit<len)) && (rtr30 a.router && rtr30 a.to)
def adD(a b:Adj):Prop:=b.router=a.router∧b.kind=a.kind∧b.to=a.to
instance (a b:Adj):Decidable (adD a b):=by unfold adD;infer_instance
def adN(a b:Adj):Prop:=¬adD a b
instance (a b:Adj):Decidable (adN a b):=by unfold adN;infer_instance
def vEng(e:Eng):Int:=
 if ¬(vlenP e.len=true∧∀a∈e.list,aR e.len a=true)then 2
 else if ¬∀a∈e.list,1≤a.kind∧a.kind≤3 then 1
 else if ¬∀a∈e.list,((a.to==a.router)==(a.kind==3))=true then 8
 else if ¬e.list.Pairwise (λx y=>x.bit<y.bit)then 25
 else if ¬e.list.Pairwise adN then 5 else 0
theorem take_pwR{α:Type}{R:α→α→Prop}{l:List α}{k:Nat}{y:α}(hy:l[k]?=some y):(l.take (k+1)).Pairwise R↔(l.take k).Pairwise R∧∀x∈l.take k,R x y:=by
 rw[take_succ hy,List.pairwise_append]
 simp
theorem vEng_p(e:Eng)(ok:vEng_a e):∃I0 m0 I1 m1 I2 I3 m3 I4 m4 I5 m5 I6 m6 I7,vEng_vc e I0 m0 I1 m1 I2 I3 m3 I4 m4 I5 m5 I6 m6 I7 (vEng e):=by
 refine⟨λs=>∃k:Nat,s.2=k∧k≤e.list.length∧s.1=(vlenP e.len && (e.list.take k).all (aR e.len)),λs=>e.list.length-s.2.toNat,
  λ_ i=>ForI e.list (λa=>1≤a.kind∧a.kind≤3) i,λ_ i=>e.list.length-i.toNat,λ_ _ a b=>b=decide (¬(1≤a.kind∧a.kind≤3)),
  λ_ _ i=>ForI e.list (λa=>((a.to==a.router)==(a.kind==3))=true) i,λ_ _ i=>e.list.length-i.toNat,
  λ_ _ _ i=>ForA e.list (λx y=>x.bit<y.bit) i,λ_ _ _ i=>e.list.length+1-i.toNat,
  λ_ _ _ _ i=>∃k:Nat,i=k∧k≤e.list.length∧(e.list.take k).Pairwise adN,λ_ _ _ _ i=>e.list.length-i.toNat,
  λ_ _ _ _ j a i=>ForI ((e.list.take j.toNat).drop 0) (λb=>adN b a) i,λ_ _ _ _ j a i=>((e.list.take j.toNat).drop 0).length-i.toNat,λ_ _ _ _ _ a _ b r=>r=decide (adD b a),?_⟩
 simp only[vEng_a,okU,Blk.ok,plainV,List.length_map]at ok
 dsimp only[vEng_vc,vEng_x,vEng_s,Ax.vp,Ax.vc];simp only[vcU,rfU,List.length_map]
 refine⟨⟨0,rfl,by omega,by simp⟩,?_⟩
 rintro⟨_,_⟩ ⟨k,rfl,hk,rfl⟩
 simp only[Int.toNat_natCast]
 refine⟨λc=>⟨by omega,c,λa ha=>?_⟩,λc=>?_⟩
 ·have hs:(e.list.take (k+1)).all (aR e.len)=((e.list.take k).all (aR e.len) && aR e.len a):=by rw[take_succ ha,List.all_append];simp
  rw[W_succ (n:=e.list.length) (by omega) (by omega)]
  have fin:∀v:Bool,v=(vlenP e.len && (e.list.take k).all (aR e.len) && aR e.len a)→(∃k':Nat,((k+1:Nat):Int)=k'∧k'≤e.list.length∧v=(vlenP e.len && (e.list.take k').all (aR e.len)))∧e.list.length-((k+1:Nat):Int).toNat<e.list.length-k:=by
   intro v hv
   exact⟨⟨k+1,rfl,by omega,by rw[hs,←Bool.and_assoc];exact hv⟩,by omega⟩
  refine⟨λq=>⟨λq1=>⟨λq2=>⟨λq3=>fin _ ?_,λq3=>fin _ ?_⟩,λq2=>fin _ ?_⟩,λq1=>fin _ ?_⟩,λq=>fin _ ?_⟩
  ·rw[q,aR,decide_eq_true q1,decide_eq_true q2,q3];rfl
  ·rw[aR,q3];simp
  ·rw[aR,decide_eq_false q2];simp
  ·rw[aR,decide_eq_false q1];simp
  ·rw[q];rfl
 have:k=e.list.length:=by omega
 subst this
 rw[List.take_length]
 have hiff:(vlenP e.len && e.list.all (aR e.len))=true↔(vlenP e.len=true∧∀a∈e.list,aR e.len a=true):=by rw[Bool.and_eq_true,List.all_eq_true]
 unfold vEng
 refine⟨λd=>by rw[if_pos λq=>by rw[hiff.mpr q]at d;cases d],λd=>?_⟩
 have d:(vlenP e.len && e.list.all (aR e.len))=true:=by simpa using d
 rw[if_neg (not_not_intro (hiff.mp d))]
 refine⟨ForI.zero,λi1 h1=>⟨λd1=>⟨h1.idx,d1,λx hx=>⟨⟨λq=>?_,λq=>?_⟩,?_⟩⟩,λd1=>?_⟩⟩
 ·exact(decide_eq_true (show ¬(1≤x.kind∧x.kind≤3)from λr=>by omega)).symm
 ·exact decide_eq_decide.mpr (by omega)
 ·rintro _ rfl
  refine⟨λq=>?_,λq=>h1.step (by omega) hx (Classical.not_not.mp (of_decide_eq_false q))⟩
  rw[if_pos λr=>of_decide_eq_true q (r _ (at_mem hx))]
 rw[if_neg (not_not_intro (h1.done d1))]
 refine⟨ForI.zero,λi2 h2=>⟨λd2=>⟨h2.idx,d2,λx hx=>⟨λq=>?_,λq=>h2.step (by omega) hx (by simpa using q)⟩⟩,λd2=>?_⟩⟩
 ·rw[if_pos λr=>by rw[r _ (at_mem hx)]at q;cases q]
 rw[if_neg (not_not_intro (h2.done d2))]
 refine⟨ForA.one,λi3 h3=>⟨λd3=>?_,λd3=>?_⟩⟩
 ·obtain⟨a1,a2⟩:=h3.idx (by omega) d3
  refine⟨a1.1,a1.2,λx hx=>⟨a2,d3,λy hy=>⟨λq=>?_,λq=>h3.step (by omega) hx hy (by omega)⟩⟩⟩
  rw[if_pos (h3.bad (by omega) hx hy (by omega))]
 rw[if_neg (not_not_intro (h3.done d3 λ_ _ _ q r=>Int.lt_trans q r))]
 refine⟨⟨0,rfl,by omega,by simp⟩,?_⟩
 rintro _ ⟨k,rfl,hk,h⟩
 simp only[Int.toNat_natCast]
 refine⟨λd4=>⟨by omega,d4,λa ha=>⟨by simp[bndB];omega,ForI.zero,λi5 h5=>⟨λd5=>⟨h5.idx,d5,λb hb=>⟨⟨λq=>⟨λq1=>?_,λq1=>?_⟩,λq=>?_⟩,?_⟩⟩,λd5=>?_⟩⟩⟩,λd4=>?_⟩
 ·have q:=eq_of_beq q;have q1:=eq_of_beq q1
  rw[Bool.eq_iff_iff,beq_iff_eq,decide_eq_true_iff]
  exact⟨λr=>⟨q,q1,r⟩,λr=>r.2.2⟩
 ·have q1:¬a.kind=b.kind:=by simpa using q1
  exact(decide_eq_false (show ¬adD b a from λr=>q1 r.2.1)).symm
 ·have q:¬a.router=b.router:=by simpa using q
  exact(decide_eq_false (show ¬adD b a from λr=>q r.1)).symm
 ·rintro _ rfl
  have hlk:((e.list.take k).drop 0).length≤e.list.length:=by simp;omega
  refine⟨λq=>?_,λq=>h5.step (by omega) hb (of_decide_eq_false q)⟩
  have hm:=at_mem hb
  rw[List.drop_zero]at hm
  rw[if_pos (show ¬e.list.Pairwise adN from λr=>absurd (of_decide_eq_true q) (((take_pwR ha).mp (r.sublist (List.take_sublist _ _))).2 b hm))]
 ·have hall:=h5.done d5
  rw[List.drop_zero]at hall
  rw[W_succ (n:=e.list.length) (by omega) (by omega)]
  exact⟨⟨k+1,rfl,by omega,(take_pwR ha).mpr ⟨h,hall⟩⟩,by omega⟩
 ·rw[List.take_of_length_le (by omega)]at h
  rw[if_neg (not_not_intro h)]
def vEng_c(e:Eng):PC Tryd.prog:=⟨51,[(.a [.k,(.s 4)])],[.agg [.int e.len,.sl 4 (e.list.map Adj.v) false]],vEng_e (vEng e),PSpec.of_ok λok=>(vEng_p e ok).elim λI0 h=>h.elim λm0 h=>h.elim λI1 h=>h.elim λm1 h=>h.elim λI2 h=>h.elim λI3 h=>h.elim λm3 h=>h.elim λI4 h=>h.elim λm4 h=>h.elim λI5 h=>h.elim λm5 h=>h.elim λI6 h=>h.elim λm6 h=>h.elim λI7 h=>mxP_of (sh:=.k) (enc:=vEng_e) (a:=(vEng_x e I0 m0 I1 m1 I2 I3 m3 I4 m4 I5 m5 I6 m6 I7).an) h (by kernel_rfl) (AV.pureB_ok rfl),fnB_ok (by kernel_rfl)⟩
theorem wrap_nn(n:Int):0≤IntKind.u64.wrap n:=by
 unfold IntKind.wrap
 simp[IntKind.bits,IntKind.signed]
 omega
def shlA(n:Int):Int:=shlI .u64 1 (IntKind.u64.wrap n)
def ownA(r:Int)(o:Int)(a:Adj):Int:=if a.router=r then bOr .u64 o (shlA a.bit)else o
def own30(e:Eng)(r:Int):Int:=if vEng e=0 then e.list.foldl (ownA r) 0 else 0
def own30_a(e:Eng)(r:Int):Prop:=okL [.agg [.int e.len,.sl 4 (e.list.map Adj.v) false],.int r]
def own30_n0(e:Eng)(r:Int)(t0:Int×Int):NF:=⟨[(1,.k,.int r),(5,.k,.val (.int .u64 t0.1)),(12,.k,.sl 4 (e.list.map Adj.v) false),(13,.k,.int ((e.list.map Adj.v).length:Int)),(14,.k,.int t0.2)],[]⟩
@[reducible] def own30_s:Nat→Type
 | 0=>Int×Int
 | _=>Unit
def own30_e(r:Int):AV:=.val (.int .u64 r)
def own30_x(e:Eng)(r:Int)(I0:(Int×Int)→Prop)(m0:(Int×Int)→Nat):Ax Tryd.prog own30_s (Int):=
 (.callP (vEng_c e)
(.br 96 ((vEng e)==0) (.loop 0 (own30_n0 e r) I0 m0 (0,0) [] λ(t0:Int×Int) b0 =>
(.br 16 (decide (t0.2<((e.list.map Adj.v).length:Int))) (.el 16 Adj.v e.list (λR=>Rf (e.list.map Adj.v) (ck (decide (0≤t0.2)) (ck (decide (t0.2<(e.list.length:Int)))
(∀x1,e.list[t0.2.toNat]?=some x1 →
(R x1))))) λx1 =>
(.br 144 (x1.router==r) (.say (ck (decide (0≤(IntKind.u64.wrap x1.bit)))) (.bk 0 b0 (bOr .u64 t0.1 (shlI .u64 1 (IntKind.u64.wrap x1.bit)),W (t0.2+1)) []))
(.bk 0 b0 (t0.1,W (t0.2+1)) [])))
(.ret (t0.1))))
(.ret (0))))
def own30_vc(e:Eng)(r:Int)(I0:(Int×Int)→Prop)(m0:(Int×Int)→Nat)(r0:Int):Prop:=(own30_x e r I0 m0).vp own30_e r0
theorem own30_p(e:Eng)(r:Int)(ok:own30_a e r):∃I m,own30_vc e r I m (own30 e r):=by
 refine⟨λs=>ForG e.list (ownA r) 0 s.2 s.1,λs=>e.list.length-s.2.toNat,?_⟩
 simp only[own30_a,okU,Blk.ok,plainV,List.length_map]at ok
 dsimp only[own30_vc,own30_x,own30_s,Ax.vp,Ax.vc];simp only[vcU,rfU,List.length_map]
 refine⟨λc=>⟨ForG.zero,?_⟩,λc=>?_⟩
 ·rintro⟨o,i⟩ g
  simp only at g ⊢
  refine⟨λd=>⟨g.idx,d,λx hx=>⟨λq=>⟨wrap_nn _,g.step (by omega) hx (by rw[ownA,if_pos (eq_of_beq q)];rfl)⟩,λq=>g.step (by omega) hx (by rw[ownA,if_neg (by simpa using q)])⟩⟩,λd=>?_⟩
  rw[own30,if_pos (eq_of_beq c)];exact g.done d
 ·rw[own30,if_neg (by simpa using c)]
def own30_c(e:Eng)(r:Int):PC Tryd.prog:=⟨78,[(.a [.k,(.s 4)]),.k],[.agg [.int e.len,.sl 4 (e.list.map Adj.v) false],.int r],own30_e (own30 e r),PSpec.of_ok λok=>(own30_p e r ok).elim λI0 h=>h.elim λm0 h=>mxP_of (sh:=.k) (enc:=own30_e) (a:=(own30_x e r I0 m0).an) h (by kernel_rfl) (AV.pureB_ok rfl),fnB_ok (by kernel_rfl)⟩
def fndP(r k to:Int)(a:Adj):Bool:=a.router==r && (a.kind==k && a.to==to)
def fnd30(e:Eng)(r k to:Int):Int×Bool:=if vEng e=0 then(match e.list.find? (fndP r k to)with
 | some a=>(a.bit,true)
 | none=>(0,false))else(0,false)
def fnd30_a(e:Eng)(r:Int)(kind:Int)(to_:Int):Prop:=okL [.agg [.int e.len,.sl 4 (e.list.map Adj.v) false],.int r,.int kind,.int to_]
def fnd30_n0(e:Eng)(r:Int)(kind:Int)(to_:Int)(t0:Int):NF:=⟨[(1,.k,.int r),(2,.k,.int kind),(3,.k,.int to_),(16,.k,.sl 4 (e.list.map Adj.v) false),(17,.k,.int ((e.list.map Adj.v).length:Int)),(18,.k,.int t0)],[]⟩
def fnd30_n1(e:Eng)(r:Int)(kind:Int)(to_:Int)(t0:Int)(x1:Adj)(t1:Bool):NF:=⟨[(1,.k,.int r),(2,.k,.int kind),(3,.k,.int to_),(11,.k,.ref 0 0),(16,.k,.sl 4 (e.list.map Adj.v) false),(17,.k,.int ((e.list.map Adj.v).length:Int)),(18,.k,.int t0),(37,.k,.bool t1)],[.box (.agg [.int x1.bit,.int x1.router,.int x1.kind,.int x1.to])]⟩
@[reducible] def fnd30_s:Nat→Type
 | 0=>Int
 | 1=>Bool
 | _=>Unit
def fnd30_e(r:Int×Bool):AV:=.tup [.int r.1,.bool r.2]
def fnd30_x(e:Eng)(r:Int)(kind:Int)(to_:Int)(I0:Int→Prop)(m0:Int→Nat)(I1:Int→Adj→Bool→Prop):Ax Tryd.prog fnd30_s (Int×Bool):=
 (.callP (vEng_c e)
(.br 96 ((vEng e)==0) (.loop 0 (fnd30_n0 e r kind to_) I0 m0 ((0):Int) [] λ(t0:Int) b0 =>
(.br 16 (decide (t0<((e.list.map Adj.v).length:Int))) (.el 16 Adj.v e.list (λR=>Rf (e.list.map Adj.v) (ck (decide (0≤t0)) (ck (decide (t0<(e.list.length:Int)))
(∀x1,e.list[t0.toNat]?=some x1 →
(R x1))))) λx1 =>
(.join 1 (fnd30_n1 e r kind to_ t0 x1) (λ(t1:Bool)=>I1 t0 x1 t1) (λb1=>(.br 160 (x1.router==r) (.br 256 (x1.kind==kind) (.bk 1 b1 ((x1.to==to_):Bool) [48])
(.bk 1 b1 ((false):Bool) [48]))
(.bk 1 b1 ((false):Bool) [48]))) λ(t1:Bool) =>
(.br 1 t1 (.ret (x1.bit,true))
(.bk 0 b0 ((W (t0+1)):Int) []))))
(.ret (0,false))))
(.ret (0,false))))
def fnd30_vc(e:Eng)(r:Int)(kind:Int)(to_:Int)(I0:Int→Prop)(m0:Int→Nat)(I1:Int→Adj→Bool→Prop)(r0:Int×Bool):Prop:=(fnd30_x e r kind to_ I0 m0 I1).vp fnd30_e r0
theorem fnd30_p(e:Eng)(r k to:Int)(ok:fnd30_a e r k to):∃I0 m0 I1,fnd30_vc e r k to I0 m0 I1 (fnd30 e r k to):=by
 refine⟨λi=>ForI e.list (λa=>fndP r k to a=false) i,λi=>e.list.length-i.toNat,λ_ a b=>b=fndP r k to a,?_⟩
 simp only[fnd30_a,okU,Blk.ok,plainV,List.length_map]at ok
 dsimp only[fnd30_vc,fnd30_x,fnd30_s,Ax.vp,Ax.vc];simp only[vcU,rfU,List.length_map]
 refine⟨λc=>⟨ForI.zero,λi h=>⟨λd=>⟨h.idx,d,λx hx=>⟨⟨λq=>⟨λq1=>by rw[fndP,q,q1];rfl,λq1=>by rw[fndP,q,q1];rfl⟩,λq=>by rw[fndP,q];rfl⟩,?_⟩⟩,λd=>?_⟩⟩,λc=>?_⟩
 ·rintro _ rfl
  refine⟨λq=>?_,λq=>h.step (by omega) hx q⟩
  rw[fnd30,if_pos (eq_of_beq c),fi_find h hx q]
 ·rw[fnd30,if_pos (eq_of_beq c),fi_none h d]
 ·rw[fnd30,if_neg (by simpa using c)]
def fnd30_c(e:Eng)(r:Int)(kind:Int)(to_:Int):PC Tryd.prog:=⟨81,[(.a [.k,(.s 4)]),.k,.k,.k],[.agg [.int e.len,.sl 4 (e.list.map Adj.v) false],.int r,.int kind,.int to_],fnd30_e (fnd30 e r kind to_),PSpec.of_ok λok=>(fnd30_p e r kind to_ ok).elim λI0 h=>h.elim λm0 h=>h.elim λI1 h=>mxP_of (sh:=.k) (enc:=fnd30_e) (a:=(fnd30_x e r kind to_ I0 m0 I1).an) h (by kernel_rfl) (AV.pureB_ok rfl),fnB_ok (by kernel_rfl)⟩
def addQ(r:Int)(o:List Adj)(q:Int):List Adj:=o++[⟨(o.length:Int),r,1,q⟩]
def addR(t:Tpl)(o:List Adj)(x:Rtr):List Adj:=(nei5 t x.id).foldl (addQ x.id) (o++[⟨(o.length:Int),x.id,3,x.id⟩])
theorem addQ_len{r:Int}:∀{l:List Int} {o:List Adj},(l.foldl (addQ r) o).length=o.length+l.length
 | [],o=>rfl
 | q::l,o=>by rw[List.foldl_cons,addQ_len];simp[addQ];omega
def ful30(t:Tpl)(n:Int):Eng×Int:=
 if chk5 t≠0 then(⟨0,[]⟩,1)else if vlenP n=false then(⟨0,[]⟩,2)
 else if n<((t.rs.foldl (addR t) []).length:Int)then(⟨0,[]⟩,3)else(⟨n,t.rs.foldl (addR t) []⟩,0)
def ful30_a(t:Tpl)(n:Int):Prop:=okL [.agg [.sl 2 (t.rs.map Rtr.v) false,.sl 5 (t.ls.map Lnk.v) false],.int n]
def ful30_n0(t:Tpl)(n:Int)(t0:Int×(List Adj)):NF:=⟨[(1,.k,.int n),(2,.k,.ref 0 0),(4,.k,.ref 1 0),(6,.k,.ref 2 0),(22,.k,.sl 2 (t.rs.map Rtr.v) false),(23,.k,.int ((t.rs.map Rtr.v).length:Int)),(24,.k,.int t0.1)],[.box (.agg [.sl 2 (t.rs.map Rtr.v) false,.sl 5 (t.ls.map Lnk.v) false]),.box (.agg [.int 0,.sl 0 [] true]),.box (.agg [.int n,.vec 3]),.vec 4 (t0.2.map Adj.v) (pureBL_map (λ_=>rfl) t0.2)]⟩
def ful30_n1(t:Tpl)(n:Int)(t0:Int×(List Adj))(x1:Rtr)(t1:Int×(List Adj)):NF:=⟨[(1,.k,.int n),(2,.k,.ref 0 0),(4,.k,.ref 1 0),(6,.k,.ref 2 0),(8,.k,.ref 4 0),(22,.k,.sl 2 (t.rs.map Rtr.v) false),(23,.k,.int ((t.rs.map Rtr.v).length:Int)),(24,.k,.int t0.1),(44,.k,.sl 1 ((nei5 t x1.id).map AV.int) false),(45,.k,.int (((nei5 t x1.id).map AV.int).length:Int)),(46,.k,.int t1.1)],[.box (.agg [.sl 2 (t.rs.map Rtr.v) false,.sl 5 (t.ls.map Lnk.v) false]),.box (.agg [.int 0,.sl 0 [] true]),.box (.agg [.int n,.vec 3]),.vec 4 (t1.2.map Adj.v) (pureBL_map (λ_=>rfl) t1.2),.box (.agg [.int x1.id,.bool x1.cap])]⟩
@[reducible] def ful30_s:Nat→Type
 | 0=>Int×(List Adj)
 | 1=>Int×(List Adj)
 | _=>Unit
def ful30_e(r:Eng×Int):AV:=.tup [Eng.v r.1,.int r.2]
def ful30_x(t:Tpl)(n:Int)(I0:(Int×(List Adj))→Prop)(m0:(Int×(List Adj))→Nat)(I1:Int×(List Adj)→Rtr→(Int×(List Adj))→Prop)(m1:Int×(List Adj)→Rtr→(Int×(List Adj))→Nat):Ax Tryd.prog ful30_s (Eng×Int):=
 (.callP (chk5_c t)
(.br 96 ((chk5 t) != 0) (.ret ((⟨0,[]⟩:Eng),1))
(.callP (vlen30_c n)
(.br 144 (!(vlenP n)) (.ret ((⟨0,[]⟩:Eng),2))
(.cmdL (.nilB 176 1 4) (.loop 0 (ful30_n0 t n) I0 m0 (0,[]) [0,16,176,272] λ(t0:Int×(List Adj)) b0 =>
(.br 20 (decide (t0.1<((t.rs.map Rtr.v).length:Int))) (.el 20 Rtr.v t.rs (λR=>Rf (t.rs.map Rtr.v) (ck (decide (0≤t0.1)) (ck (decide (t0.1<(t.rs.length:Int)))
(∀x1,t.rs[t0.1.toNat]?=some x1 →
(R x1))))) λx1 =>
(.say (λR=>Rf (α:=List AV) (t0.2.map Adj.v) (Rf (α:=List AV) [.agg [.int ((t0.2.map Adj.v).length:Int),.int x1.id,.int 3,.int x1.id]]
(ck (decide (t0.2.length+1≤1048576))
R))) (.app 260 Adj.v t0.2 [(⟨((t0.2.map Adj.v).length:Int),x1.id,3,x1.id⟩:Adj)]
(.callP (nei5_c t x1.id)
(.loop 1 (ful30_n1 t n t0 x1) (I1 t0 x1) (m1 t0 x1) (0,t0.2++[(⟨((t0.2.map Adj.v).length:Int),x1.id,3,x1.id⟩:Adj)]) [0,1,2,260,52] λ(t1:Int×(List Adj)) b1 =>
(.br 21 (decide (t1.1<(((nei5 t x1.id).map AV.int).length:Int))) (.el 21 AV.int (nei5 t x1.id) (λR=>Rf ((nei5 t x1.id).map AV.int) (ck (decide (0≤t1.1)) (ck (decide (t1.1<((nei5 t x1.id).length:Int)))
(∀x2,(nei5 t x1.id)[t1.1.toNat]?=some x2 →
(R x2))))) λx2 =>
(.say (λR=>Rf (α:=List AV) (t1.2.map Adj.v) (Rf (α:=List AV) [.agg [.int ((t1.2.map Adj.v).length:Int),.int x1.id,.int 1,.int x2]]
(ck (decide (t1.2.length+1≤1048576))
R))) (.app 229 Adj.v t1.2 [(⟨((t1.2.map Adj.v).length:Int),x1.id,1,x2⟩:Adj)]
(.bk 1 b1 (W (t1.1+1),t1.2++[(⟨((t1.2.map Adj.v).length:Int),x1.id,1,x2⟩:Adj)]) [0,1,2,229,4]))))
(.bk 0 b0 (W (t0.1+1),t1.2) [0,1,2,3])))))))
(.br 100 (decide (n<((t0.2.map Adj.v).length:Int))) (.ret ((⟨0,[]⟩:Eng),3))
(.say (Rf (t0.2.map Adj.v)) (.cmdL (.frzE 3 (t0.2.map Adj.v) (pureBL_map (λ_=>rfl) t0.2)) (.ret ((⟨n,t0.2⟩:Eng),0))))))))))))
def ful30_vc(t:Tpl)(n:Int)(I0:(Int×(List Adj))→Prop)(m0:(Int×(List Adj))→Nat)(I1:Int×(List Adj)→Rtr→(Int×(List Adj))→Prop)(m1:Int×(List Adj)→Rtr→(Int×(List Adj))→Nat)(r0:Eng×Int):Prop:=(ful30_x t n I0 m0 I1 m1).vp ful30_e r0
theorem nei5_len{t:Tpl}{r:Int}:(nei5 t r).length≤24:=by
 unfold nei5
 split
 ·simp
 ·rename_i c
  have:=(chk5_len (Classical.not_not.mp c)).1
  exact Nat.le_trans nea5_len this
theorem ful30_p(t:Tpl)(n:Int)(ok:ful30_a t n):∃I0 m0 I1 m1,ful30_vc t n I0 m0 I1 m1 (ful30 t n):=by
 refine⟨λs=>ForG t.rs (addR t) [] s.1 s.2,λs=>t.rs.length-s.1.toNat,λs x u=>ForG (nei5 t x.id) (addQ x.id) (s.2++[⟨(s.2.length:Int),x.id,3,x.id⟩]) u.1 u.2,λ_ x u=>(nei5 t x.id).length-u.1.toNat,?_⟩
 dsimp only[ful30_vc,ful30_x,ful30_s,Ax.vp,Ax.vc];simp only[vcU,rfU,List.length_map]
 refine⟨λc=>?_,λc=>⟨λd=>?_,λd=>⟨ForG.zero,?_⟩⟩⟩
 ·rw[ful30,if_pos (by simpa using c)]
 ·rw[ful30,if_neg (by simpa using c),if_pos (by simpa using d)]
 have hn:=(chk5_len (t:=t) (by simpa using c)).1
 rintro⟨i,out⟩ g
 simp only at g ⊢
 have hlen:=g.len (f:=List.length) (a:=0) (b:=25) (by simp) λs x _=>by
  rw[addR,addQ_len,List.length_append,List.length_singleton]
  have:=nei5_len (t:=t) (r:=x.id)
  omega
 have h0:=g.idx
 refine⟨λe=>⟨h0,e,λx hx=>⟨by omega,ForG.zero,?_⟩⟩,λe=>⟨λq=>?_,λq=>?_⟩⟩
 ·rintro⟨j,o2⟩ g2
  simp only at g2 ⊢
  have hl2:=g2.len (f:=List.length) (a:=out.length+1) (b:=1) (by simp) λs x _=>by simp[addQ]
  have hk:=nei5_len (t:=t) (r:=x.id)
  have h2:=g2.idx
  refine⟨λe2=>⟨h2,e2,λy hy=>⟨by omega,g2.step (by omega) hy rfl⟩⟩,λe2=>g.step (by omega) hx ?_⟩
  rw[addR];exact g2.done e2
 ·rw[ful30,if_neg (by simpa using c),if_neg (by simpa using d),←g.done e,if_pos q]
 ·rw[ful30,if_neg (by simpa using c),if_neg (by simpa using d),←g.done e,if_neg q]
def ful30_c(t:Tpl)(n:Int):PC Tryd.prog:=⟨50,[(.a [(.s 2),(.s 5)]),.k],[.agg [.sl 2 (t.rs.map Rtr.v) false,.sl 5 (t.ls.map Lnk.v) false],.int n],ful30_e (ful30 t n),PSpec.of_ok λok=>(ful30_p t n ok).elim λI0 h=>h.elim λm0 h=>h.elim λI1 h=>h.elim λm1 h=>mxP_of (sh:=(.a [(.a [.k,(.s 4)]),.k])) (enc:=ful30_e) (a:=(ful30_x t n I0 m0 I1 m1).an) h (by kernel_rfl) (AV.pureB_ok rfl),fnB_ok (by kernel_rfl)⟩
end Go.Proofs.YteooglpnechplaaDoor
