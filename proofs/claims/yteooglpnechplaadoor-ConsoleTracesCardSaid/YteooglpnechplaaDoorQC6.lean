/- Texts joined: D4 V2 D5 E0 E1 E2 P5 E4 P7 EN P8. -/
import Derived.Test.YteooglpnechplaaDoorQC5
set_option linter.unusedVariables false
set_option linter.unusedSimpArgs false
namespace Go.Proofs.YteooglpnechplaaDoor
open Go Go.Am
def fltL(f:Flt):List UInt8:=
 if f.mode=1 then(if f.srcs=[]then [110,111,116,104,105,110,103]else [111,110,108,121,32]++listL f.srcs)
 else if f.mode=2 then(if f.srcs=[]then [97,108,108]else [97,108,108,32,98,117,116,32]++listL f.srcs)
 else [63]
theorem fltT_eq(f:Flt):fltT f=B (fltL f):=by
 unfold fltT fltL
 simp only[listT_eq,B_app]
 split
 ·split<;>rfl
 ·split
  ·split<;>rfl
  ·rfl
def hopL(h:Hop):List UInt8:=Lib.itoa h.a++45::Lib.itoa h.b
theorem hopT_eq(h:Hop):hopT h.a h.b=B (hopL h):=by
 rw[hopT,hopL,itoa,itoa,B_app,B_app,List.append_assoc];rfl
theorem treF_eq:∀{l:List Hop} {o:List UInt8},l.foldl (λo h=>o++(B [32]++hopT h.a h.b)) (B o)=B (o++Lib.joinTail [32] (l.map hopL))
 | [],o=>by simp[Lib.joinTail]
 | h::l,o=>by
  rw[List.foldl_cons,hopT_eq,B_app,B_app,treF_eq,List.map_cons,joinTail_cons]
  simp[List.append_assoc]
theorem treT_eq(t:Tre):treT t=B (Lib.itoa t.root++Lib.joinTail [32] (t.ls.map hopL)):=treF_eq
theorem words_eq(l:List Anyv):words l=B (Lib.join (l.map λx=>x.txt.data.toList) [32]):=by
 rw[words,joinB,List.map_map];rfl
theorem itmsOk.mono{n m:Int}{l:List Itm}(h:itmsOk n l)(hm:n≤m):itmsOk m l:=
 ⟨λx hx=>by obtain⟨⟨a,b⟩,c⟩:=h.1 x hx;exact⟨⟨a,by omega⟩,c⟩,h.2⟩
theorem Nodup.grp{l:List Itm}(h:(l.map Itm.grp).Nodup){x y:Itm}(hx:x∈l)(hy:y∈l)(e:x.grp=y.grp):x=y:=by
 induction l with
 | nil=>simp at hx
 | cons z l ih =>
  simp only[List.map_cons,List.nodup_cons]at h
  rcases List.mem_cons.mp hx with h1|h1
  ·rcases List.mem_cons.mp hy with h2|h2
   ·rw[h1,h2]
   ·exact absurd (List.mem_map.mpr ⟨y,h2,by rw[←e,h1]⟩) h.1
  ·rcases List.mem_cons.mp hy with h2|h2
   ·exact absurd (List.mem_map.mpr ⟨x,h1,by rw[e,h2]⟩) h.1
   ·exact ih h.2 h1 h2
structure Adv (n:Int) (l:List Itm) (m:Int) (k:List Itm):Prop where
  le:n≤m
  old:∀z∈k,z∈l∨n<z.ver
  grp:∀z∈l,∃y∈k,y.grp=z.grp
theorem Adv.refl(n:Int)(l:List Itm):Adv n l n l:=⟨Int.le_refl _,λ_ h=>.inl h,λz h=>⟨z,h,rfl⟩⟩
theorem toList_loop(b:ByteArray):∀(n i:Nat) (r:List UInt8),b.size-i=n→ByteArray.toList.loop b i r=r.reverse++b.data.toList.drop i:=by
 intro n
 induction n with
 | zero =>
  intro i r h
  rw[ByteArray.toList.loop,if_neg (by omega),List.drop_of_length_le (by rw[ba_len];omega),List.append_nil]
 | succ n ih =>
  intro i r h
  have hi:i<b.data.toList.length:=by rw[ba_len];omega
  rw[ByteArray.toList.loop,if_pos (by omega),ih _ _ (by omega),List.drop_eq_getElem_cons hi]
  have:b.get! i=b.data.toList[i]:=by
   show(b.data[i]!)=_
   rw[getElem!_pos b.data i (by rw[ba_len]at hi;exact hi)];simp
  rw[this];simp
theorem ba_list(b:ByteArray):b.toList=b.data.toList:=by
 rw[ByteArray.toList,toList_loop b _ 0 [] rfl];simp
theorem str_eq(a b:ByteArray):(a.toList==b.toList)=decide (a=b):=by
 rw[ba_list,ba_list]
 by_cases h:a=b
 ·subst h;simp
 ·rw[decide_eq_false h,beq_eq_false_iff_ne]
  intro e
  have:=congrArg B e
  rw[B_of,B_of]at this
  exact h this
def awk42_a:Prop:=okL []
def awk42_e(r:Bool):AV:=.bool r
def awk42_x:Ax Tryd.prog noS (Bool):=
 (.req 48 ((⟨2,[2,3]⟩:Flt).srcs.length≤1048576) λh1 =>
(.callP (fltT_c (⟨2,[2,3]⟩:Flt) h1)
(.br 96 ((fltT (⟨2,[2,3]⟩:Flt)).toList==(B [97,108,108,32,98,117,116,32,50,44,51]).toList) (.req 160 ((⟨1,[(⟨1,2⟩:Hop),(⟨2,3⟩:Hop)]⟩:Tre).ls.length≤1000) λh2 =>
(.callP (treT_c (⟨1,[(⟨1,2⟩:Hop),(⟨2,3⟩:Hop)]⟩:Tre) h2)
(.ret ((treT (⟨1,[(⟨1,2⟩:Hop),(⟨2,3⟩:Hop)]⟩:Tre)).toList==(B [49,32,49,45,50,32,50,45,51]).toList))))
(.ret (false)))))
def awk42_vc(r0:Bool):Prop:=(awk42_x).vp awk42_e r0
theorem awk42_p(ok:awk42_a):awk42_vc true:=by
  dsimp only[awk42_vc,awk42_x,noS,Ax.vp,Ax.vc];simp only[vcU,rfU,List.length_map]
  have e1:fltT { mode:=2,srcs:=[2,3] }=B [97,108,108,32,98,117,116,32,50,44,51]:=by
    rw[fltT_eq];simp[fltL,listL,Lib.itoa,Lib.decDigits,Lib.join_cons,Lib.joinTail]
  have e2:treT { root:=1,ls:=[{ a:=1,b:=2 },{ a:=2,b:=3 }] }=B [49,32,49,45,50,32,50,45,51]:=by
    rw[treT_eq];simp[hopL,Lib.itoa,Lib.decDigits,Lib.joinTail]
  rw[e1,e2]
  simp
def awk42_c:PC Tryd.prog:=⟨20,[],[],awk42_e true,PSpec.of_ok λok=>mxP_of (sh:=.k) (enc:=awk42_e) (a:=(awk42_x).an) (awk42_p ok) (by kernel_rfl) (AV.pureB_ok rfl),fnB_ok (by kernel_rfl)⟩
end Go.Proofs.YteooglpnechplaaDoor
namespace Go.Proofs.YteooglpnechplaaDoor
open Go Go.Am Go.RowKit
def decM(n:Int):Nat:=2 * n.natAbs+(if n<0 then 1 else 0)
theorem itoa_small{n:Int}(h:0≤n∧n<10):Lib.itoa n=[UInt8.ofNat (48+n.toNat)]:=by
 rw[Lib.itoa,if_neg (by omega),Lib.decDigits,dif_pos (by omega)]
theorem itoa_big{n:Int}(h:10≤n):Lib.itoa n=Lib.itoa (n / 10)++[UInt8.ofNat (48+(n % 10).toNat)]:=by
 rw[Lib.itoa,if_neg (by omega),Lib.decDigits,dif_neg (by omega),Lib.itoa,if_neg (by omega)]
 have h1:n.toNat / 10=(n / 10).toNat:=by omega
 have h2:n.toNat % 10=(n % 10).toNat:=by omega
 rw[h1,h2]
theorem itoa_minus{n:Int}(h:n<0):Lib.itoa n=45::Lib.itoa (-n):=by
 rw[Lib.itoa,if_pos h,Lib.itoa,if_neg (by omega)]
 have:n.natAbs=(-n).toNat:=by omega
 rw[this]
theorem itoa_low{n:Int}(h:n≤-10):Lib.itoa n=Lib.itoa (n.tdiv 10)++Lib.itoa (-(n.tmod 10)):=by
 have e1:n.tdiv 10=-((-n) / 10):=by
  rw[←Int.neg_neg n,Int.neg_tdiv,Int.neg_neg,Int.tdiv_eq_ediv_of_nonneg (by omega)]
 have e2:n.tmod 10=-((-n) % 10):=by
  rw[←Int.neg_neg n,Int.neg_tmod,Int.neg_neg,Int.tmod_eq_emod_of_nonneg (by omega)]
 rw[e1,e2,itoa_minus (by omega),itoa_big (by omega),itoa_minus (n:=-((-n) / 10)) (by omega),Int.neg_neg,Int.neg_neg,itoa_small (n:=(-n) % 10) (by omega)]
 rfl
theorem wrap8{d:Int}(h:0≤d∧d<10):IntKind.u8.wrap (48+d)=48+d:=by
 have:d=0∨d=1∨d=2∨d=3∨d=4∨d=5∨d=6∨d=7∨d=8∨d=9:=by omega
 rcases this with rfl|rfl|rfl|rfl|rfl|rfl|rfl|rfl|rfl|rfl<;>rfl
theorem div_neg{n:Int}(h:n<0):n.tdiv 10=-((-n) / 10)∧n.tmod 10=-((-n) % 10):=by
 constructor
 ·rw[←Int.neg_neg n,Int.neg_tdiv,Int.neg_neg,Int.tdiv_eq_ediv_of_nonneg (by omega)]
 ·rw[←Int.neg_neg n,Int.neg_tmod,Int.neg_neg,Int.tmod_eq_emod_of_nonneg (by omega)]
theorem div_pos{n:Int}(h:0≤n):n.tdiv 10=n / 10∧n.tmod 10=n % 10:=⟨Int.tdiv_eq_ediv_of_nonneg h,Int.tmod_eq_emod_of_nonneg h⟩
theorem decM_lt{m n:Int}(h:m.natAbs<n.natAbs∨(m.natAbs=n.natAbs∧0≤m∧n<0)):decM m<decM n:=by
 unfold decM
 split<;>split<;>omega
def decC(n:Int)(hr:∀m:Int,decM m<decM n→PSpec Tryd.prog 62 [.int m] (.str (itoa m)))(m:Int)(h:decM m<decM n):PC Tryd.prog:=⟨62,[.k],[.int m],.str (itoa m),hr m h,fnB_ok (by kernel_rfl)⟩
def decN_a(n:Int)(hr:∀m:Int,decM m<decM n→PSpec Tryd.prog 62 [.int m] (.str (itoa m))):Prop:=okL [.int n]
def decN_e(r:ByteArray):AV:=.str r
def decN_x(n:Int)(hr:∀m:Int,decM m<decM n→PSpec Tryd.prog 62 [.int m] (.str (itoa m))):Ax Tryd.prog noS (ByteArray):=
 (.br 48 (decide (n<0)) (.br 96 ((W (n.tdiv 10))==0) (.req 128 (decM (W (0-n))<decM n) λh1 =>
(.callP (decC n hr (W (0-n)) h1)
(.say (ck (decide ((B [45]).size+(itoa (W (0-n))).size≤maxLen))) (.ret ((B [45])++(itoa (W (0-n))))))))
(.req 128 (decM (W (n.tdiv 10))<decM n) λh2 =>
(.callP (decC n hr (W (n.tdiv 10)) h2)
(.req 192 (decM (W (0-(n.tmod 10)))<decM n) λh3 =>
(.callP (decC n hr (W (0-(n.tmod 10))) h3)
(.say (ck (decide ((itoa (W (n.tdiv 10))).size+(itoa (W (0-(n.tmod 10)))).size≤maxLen))) (.ret ((itoa (W (n.tdiv 10)))++(itoa (W (0-(n.tmod 10))))))))))))
(.br 80 (decide (n<10)) (.ret (B [UInt8.ofNat ((IntKind.u8.wrap (W (48+n)))).toNat]))
(.req 112 (decM (W (n.tdiv 10))<decM n) λh4 =>
(.callP (decC n hr (W (n.tdiv 10)) h4)
(.say (ck (decide ((itoa (W (n.tdiv 10))).size+(B [UInt8.ofNat ((IntKind.u8.wrap (W (48+(n.tmod 10))))).toNat]).size≤maxLen))) (.ret ((itoa (W (n.tdiv 10)))++(B [UInt8.ofNat ((IntKind.u8.wrap (W (48+(n.tmod 10))))).toNat]))))))))
def decN_vc(n:Int)(hr:∀m:Int,decM m<decM n→PSpec Tryd.prog 62 [.int m] (.str (itoa m)))(r0:ByteArray):Prop:=(decN_x n hr).vp decN_e r0
theorem decN_p(n:Int)(hr:∀m:Int,decM m<decM n→PSpec Tryd.prog 62 [.int m] (.str (itoa m)))(ok:decN_a n hr):decN_vc n hr (itoa n):=by
 simp only[decN_a,okU,Blk.ok,plainV,List.length_map]at ok
 dsimp only[decN_vc,decN_x,noS,Ax.vp,Ax.vc];simp only[vcU,rfU,List.length_map]
 have hml:=maxLen_eq
 have c1:(B [45]).size=1:=rfl
 refine⟨λh=>?_,λh=>?_⟩
 ·obtain⟨e1,e2⟩:=div_neg h
  rw[e1,e2,W_eq (n:=-(-n / 10)) (by omega)]
  refine⟨λc=>?_,λc=>?_⟩
  ·have c:-(-n / 10)=0:=by simpa using c
   have w:W (0-n)=-n:=by rw[W_eq (by omega)];omega
   rw[w]
   have:=itoa_len (n:=-n) (by omega)
   refine⟨decM_lt (.inr (by omega)),by omega,?_⟩
   rw[itoa,itoa,itoa_minus h,B_app];rfl
  ·have c:¬-(-n / 10)=0:=by simpa using c
   have w:W (0 - -(-n % 10))=-n % 10:=by rw[W_eq (by omega)];omega
   rw[w]
   have l1:=itoa_len (n:=-(-n / 10)) (by omega)
   have l2:=itoa_len (n:=-n % 10) (by omega)
   refine⟨decM_lt (.inl (by omega)),decM_lt (.inl (by omega)),by omega,?_⟩
   have:=itoa_low (n:=n) (by omega)
   rw[e1,e2,Int.neg_neg]at this
   rw[itoa,itoa,itoa,this,B_app]
 ·obtain⟨e1,e2⟩:=div_pos (n:=n) (by omega)
  refine⟨λc=>?_,λc=>?_⟩
  ·rw[W_eq (by omega),wrap8 (by omega),itoa,itoa_small (by omega)]
   have:(48+n).toNat=48+n.toNat:=by omega
   rw[this]
  ·rw[e1,e2,W_eq (n:=48+n % 10) (by omega),W_eq (n:=n / 10) (by omega),wrap8 (by omega)]
   have l1:=itoa_len (n:=n / 10) (by omega)
   refine⟨decM_lt (.inl (by omega)),?_,?_⟩
   ·rw[B_size];simp;omega
   ·rw[itoa,itoa,itoa_big (n:=n) (by omega),B_app]
    have:(48+n % 10).toNat=48+(n % 10).toNat:=by omega
    rw[this]
def decN_c(n:Int)(hr:∀m:Int,decM m<decM n→PSpec Tryd.prog 62 [.int m] (.str (itoa m))):PC Tryd.prog:=⟨62,[.k],[.int n],decN_e (itoa n),PSpec.of_ok λok=>mxP_of (sh:=.k) (enc:=decN_e) (a:=(decN_x n hr).an) (decN_p n hr ok) (by kernel_rfl) (AV.pureB_ok rfl),fnB_ok (by kernel_rfl)⟩
theorem dec_all:∀(k:Nat) (n:Int),decM n<k→PSpec Tryd.prog 62 [.int n] (.str (itoa n))
 | 0,_,h=>absurd h (by omega)
 | k+1,n,h=>(decN_c n λm hm=>dec_all k m (by omega)).ok
def decT_c(n:Int):PC Tryd.prog:=⟨62,[.k],[.int n],.str (itoa n),dec_all _ n (Nat.lt_succ_self _),fnB_ok (by kernel_rfl)⟩
theorem join_snoc{l:List (List UInt8)}{x sep:List UInt8}(h:l≠[]):Lib.join (l++[x]) sep=Lib.join l sep++(sep++x):=by
 cases l with
 | nil=>exact absurd rfl h
 | cons y r =>
  rw[List.cons_append,Lib.join_cons,Lib.join_cons,List.append_assoc]
  congr 1
  simp[Lib.joinTail]
theorem join_step{α:Type}{l:List α}{f:α→List UInt8}{sep:List UInt8}{k:Nat}{x:α}(hx:l[k]?=some x) :
  Lib.join ((l.take (k+1)).map f) sep=(if k=0 then Lib.join ((l.take k).map f) sep else Lib.join ((l.take k).map f) sep++sep)++f x:=by
 rw[take_succ hx,List.map_append,List.map_singleton]
 have:=lt_of_get hx
 split
 ·rename_i e;subst e;simp[Lib.join_one,Lib.join_nil]
 ·rename_i e
  rw[join_snoc,List.append_assoc]
  intro q
  have:=congrArg List.length q
  rw[List.length_map,List.length_take,List.length_nil]at this
  omega
theorem join_len{l:List (List UInt8)}{sep:List UInt8}{m k:Nat}(hm:∀x∈l,x.length≤m)(hs:sep.length≤k):(Lib.join l sep).length≤l.length * (m+k):=by
 have:=joinB_size (l:=l.map B) (sep:=B sep) (m:=m) (k:=k) (λx hx=>by
  obtain⟨y,hy,rfl⟩:=List.mem_map.mp hx
  rw[B_size];exact hm y hy) (by rw[B_size];exact hs)
 rwa [joinB_eq,B_size,List.length_map]at this
def listR_a(l:(List Int)):Prop:=okL [.sl 1 (l.map AV.int) false]
def listR_n0(l:(List Int))(t0:ByteArray×Int):NF:=⟨[(3,.k,.str t0.1),(9,.k,.sl 1 (l.map AV.int) false),(10,.k,.int ((l.map AV.int).length:Int)),(11,.k,.int t0.2)],[]⟩
def listR_n1(l:(List Int))(t0:ByteArray×Int)(x1:Int)(t1:ByteArray):NF:=⟨[(3,.k,.str t1),(5,.k,.int x1),(9,.k,.sl 1 (l.map AV.int) false),(10,.k,.int ((l.map AV.int).length:Int)),(11,.k,.int t0.2)],[]⟩
@[reducible] def listR_s:Nat→Type
 | 0=>ByteArray×Int
 | 1=>ByteArray
 | _=>Unit
def listR_e(r:ByteArray):AV:=.str r
def listR_x(l:(List Int))(I0:(ByteArray×Int)→Prop)(m0:(ByteArray×Int)→Nat)(I1:ByteArray×Int→Int→ByteArray→Prop):Ax Tryd.prog listR_s (ByteArray):=
 (.br 64 (((l.map AV.int).length:Int)==0) (.ret (B [46]))
(.loop 0 (listR_n0 l) I0 m0 (B [],0) [] λ(t0:ByteArray×Int) b0 =>
(.br 16 (decide (t0.2<((l.map AV.int).length:Int))) (.el 32 AV.int l (λR=>Rf (l.map AV.int) (ck (decide (0≤t0.2)) (ck (decide (t0.2<(l.length:Int)))
(∀x1,l[t0.2.toNat]?=some x1 →
(R x1))))) λx1 =>
(.join 1 (listR_n1 l t0 x1) (λ(t1:ByteArray)=>I1 t0 x1 t1) (λb1=>(.br 128 (decide (0<t0.2)) (.say (ck (decide (t0.1.size+(B [44]).size≤maxLen))) (.bk 1 b1 ((t0.1++(B [44])):ByteArray) []))
(.bk 1 b1 ((t0.1):ByteArray) []))) λ(t1:ByteArray) =>
(.callP (decT_c x1)
(.say (ck (decide (t1.size+(itoa x1).size≤maxLen))) (.bk 0 b0 (t1++(itoa x1),W (t0.2+1)) [])))))
(.ret (t0.1)))))
def listR_vc(l:(List Int))(I0:(ByteArray×Int)→Prop)(m0:(ByteArray×Int)→Nat)(I1:ByteArray×Int→Int→ByteArray→Prop)(r0:ByteArray):Prop:=(listR_x l I0 m0 I1).vp listR_e r0
theorem listR_p(l:List Int)(h:l.length≤1048576)(ok:listR_a l):∃I m J,listR_vc l I m J (listT l):=by
 refine⟨λt=>∃k:Nat,t.2=k∧k≤l.length∧t.1=B (Lib.join ((l.take k).map Lib.itoa) [44]),λt=>l.length-t.2.toNat,λt x o=>o=(if t.2=0 then t.1 else t.1++B [44]),?_⟩
 simp only[listR_a,okU,Blk.ok,plainV,List.length_map]at ok
 dsimp only[listR_vc,listR_x,listR_s,Ax.vp,Ax.vc];simp only[vcU,rfU,List.length_map]
 have hml:=maxLen_eq
 have hin:∀x∈l,-9223372036854775808≤x∧x≤9223372036854775807:=λx hx=>by
  have:=okL_iff.mp ok.2 _ (List.mem_map_of_mem hx)
  simpa only[okU,plainV]using this
 refine⟨λc=>?_,λc=>⟨⟨0,rfl,by omega,by simp[Lib.join_nil]⟩,?_⟩⟩
 ·have:l=[]:=List.eq_nil_of_length_eq_zero (by have:=eq_of_beq c;omega)
  rw[listT,if_pos this]
 ·have hne:¬l=[]:=λe=>by subst e;simp at c
  rintro⟨o,i⟩ ⟨k,hi,hk,ho⟩
  simp only at hi ho ⊢
  subst hi
  have hlen:=join_len (l:=(l.take k).map Lib.itoa) (sep:=[44]) (m:=21) (k:=1) (λx hx=>by
   obtain⟨y,hy,rfl⟩:=List.mem_map.mp hx
   have h2:=itoa_len (hin y (List.mem_of_mem_take hy))
   rwa [itoa,B_size]at h2) (Nat.le_refl _)
  rw[List.length_map,List.length_take]at hlen
  have hos:o.size≤23068672:=by rw[ho,B_size];omega
  have c1:(B [44]).size=1:=rfl
  simp only[Int.toNat_natCast]
  refine⟨λc1=>⟨by omega,by omega,λx hx=>⟨⟨λq=>⟨by omega,by rw[if_neg (by omega)]⟩,λq=>by rw[if_pos (by omega)]⟩,?_⟩⟩,λc1=>?_⟩
  ·rintro o2 rfl
   have h2:=itoa_len (hin x (mem_of_get hx))
   have hst:=join_step (f:=Lib.itoa) (sep:=[44]) hx
   have e:(if(k:Int)=0 then o else o++B [44])++itoa x=B (Lib.join ((l.take (k+1)).map Lib.itoa) [44]):=by
    rw[hst,ho,itoa]
    by_cases hk0:k=0
    ·rw[if_pos (by omega),if_pos hk0,B_app]
    ·rw[if_neg (by omega),if_neg hk0,B_app,B_app]
   refine⟨?_,⟨k+1,W_succ (n:=l.length) (by omega) (by omega),by omega,e⟩,by rw[W_succ (n:=l.length) (by omega) (by omega)];omega⟩
   split
   ·omega
   ·rw[ByteArray.size_append];omega
  ·rw[ho,List.take_of_length_le (by omega),listT_eq,listL,if_neg hne]
def listR_c(l:(List Int))(h:l.length≤1048576):PC Tryd.prog:=⟨64,[(.s 1)],[.sl 1 (l.map AV.int) false],listR_e (listT l),PSpec.of_ok λok=>(listR_p l h ok).elim λI0 h=>h.elim λm0 h=>h.elim λI1 h=>mxP_of (sh:=.k) (enc:=listR_e) (a:=(listR_x l I0 m0 I1).an) h (by kernel_rfl) (AV.pureB_ok rfl),fnB_ok (by kernel_rfl)⟩
def sameT_a(a:(List ByteArray))(b:(List ByteArray)):Prop:=okL [.sl 1 (a.map AV.str) false,.sl 1 (b.map AV.str) false]
def sameT_n0(a:(List ByteArray))(b:(List ByteArray))(t0:Int):NF:=⟨[(0,.k,.sl 1 (a.map AV.str) false),(1,.k,.sl 1 (b.map AV.str) false),(12,.k,.int ((a.map AV.str).length:Int)),(13,.k,.int t0)],[]⟩
@[reducible] def sameT_s:Nat→Type
 | 0=>Int
 | _=>Unit
def sameT_e(r:Bool):AV:=.bool r
def sameT_x(a:(List ByteArray))(b:(List ByteArray))(I0:Int→Prop)(m0:Int→Nat):Ax Tryd.prog sameT_s (Bool):=
 (.br 96 (((a.map AV.str).length:Int) != ((b.map AV.str).length:Int)) (.ret (false))
(.loop 0 (sameT_n0 a b) I0 m0 ((0):Int) [] λ(t0:Int) b0 =>
(.br 16 (decide (t0<((a.map AV.str).length:Int))) (.el 80 AV.str a (λR=>Rf (a.map AV.str) (ck (decide (0≤t0)) (ck (decide (t0<(a.length:Int)))
(∀x1,a[t0.toNat]?=some x1 →
(R x1))))) λx1 =>
(.el 144 AV.str b (λR=>Rf (b.map AV.str) (ck (decide (0≤t0)) (ck (decide (t0<(b.length:Int)))
(∀x2,b[t0.toNat]?=some x2 →
(R x2))))) λx2 =>
(.br 192 (!(x1.toList==x2.toList)) (.ret (false))
(.bk 0 b0 ((W (t0+1)):Int) []))))
(.ret (true)))))
def sameT_vc(a:(List ByteArray))(b:(List ByteArray))(I0:Int→Prop)(m0:Int→Nat)(r0:Bool):Prop:=(sameT_x a b I0 m0).vp sameT_e r0
theorem sameT_p(a b:List ByteArray)(ok:sameT_a a b):∃I m,sameT_vc a b I m (decide (a=b)):=by
 refine⟨λt=>∃k:Nat,t=k∧k≤a.length∧a.take k=b.take k,λt=>a.length-t.toNat,?_⟩
 simp only[sameT_a,okU,Blk.ok,plainV,List.length_map]at ok
 dsimp only[sameT_vc,sameT_x,sameT_s,Ax.vp,Ax.vc];simp only[vcU,rfU,List.length_map]
 refine⟨λe=>(decide_eq_false λh=>by subst h;simp at e).symm,λe=>⟨⟨0,rfl,by omega,rfl⟩,?_⟩⟩
 have e:a.length=b.length:=by simp at e;omega
 rintro _ ⟨k,rfl,hk,h⟩
 simp only[Int.toNat_natCast]
 refine⟨λh1=>⟨by omega,by omega,λx hx=>⟨by omega,by omega,λy hy=>⟨λd=>?_,λd=>?_⟩⟩⟩,λh1=>?_⟩
 ·refine(decide_eq_false λe=>?_).symm
  subst e
  cases hx.symm.trans hy
  simp at d
 ·have q:x=y:=by
   rw[str_eq]at d
   exact of_decide_eq_true (by simpa using d)
  subst q
  rw[W_succ (n:=a.length) (by omega) (by omega)]
  exact⟨⟨k+1,rfl,by omega,by rw[take_succ hx,take_succ hy,h]⟩,by omega⟩
 ·rw[List.take_of_length_le (by omega),List.take_of_length_le (by omega)]at h
  exact(decide_eq_true h).symm
def sameT_c(a:(List ByteArray))(b:(List ByteArray)):PC Tryd.prog:=⟨25,[(.s 1),(.s 1)],[.sl 1 (a.map AV.str) false,.sl 1 (b.map AV.str) false],sameT_e (decide (a=b)),PSpec.of_ok λok=>(sameT_p a b ok).elim λI0 h=>h.elim λm0 h=>mxP_of (sh:=.k) (enc:=sameT_e) (a:=(sameT_x a b I0 m0).an) h (by kernel_rfl) (AV.pureB_ok rfl),fnB_ok (by kernel_rfl)⟩
end Go.Proofs.YteooglpnechplaaDoor
namespace Go.Proofs.YteooglpnechplaaDoor
open Go Go.Am
def bitsT(b:Int):ByteArray:=listT (bitL b)
abbrev bitsR:=bitsT
def bitsR_a(b:Int):Prop:=okL [.val (.int .u64 b)]
def bitsR_n0(b:Int)(t0:Int×(List Int)):NF:=⟨[(0,.k,.val (.int .u64 b)),(3,.k,.vec 0),(4,.k,.int t0.1)],[.vec 1 (t0.2.map AV.int) (pureBL_map (λ_=>rfl) t0.2)]⟩
@[reducible] def bitsR_s:Nat→Type
 | 0=>Int×(List Int)
 | _=>Unit
def bitsR_e(r:ByteArray):AV:=.str r
def bitsR_x(b:Int)(I0:(Int×(List Int))→Prop)(m0:(Int×(List Int))→Nat):Ax Tryd.prog bitsR_s (ByteArray):=
 (.cmdL (.nilT 3 1) (.loop 0 (bitsR_n0 b) I0 m0 (0,[]) [48] λ(t0:Int×(List Int)) b0 =>
(.br 33 (decide (t0.1<64)) (.say (ck (decide (0≤(IntKind.u64.wrap t0.1)))) (.br 129 ((bAnd .u64 (shrI .u64 b (IntKind.u64.wrap t0.1)) 1)==1) (.say (λR=>Rf (α:=List AV) (t0.2.map AV.int) (Rf (α:=List AV) [.int t0.1]
(ck (decide (t0.2.length+1≤1048576))
R))) (.app 177 AV.int t0.2 [t0.1]
(.bk 0 b0 (W (t0.1+1),t0.2++[t0.1]) [177])))
(.bk 0 b0 (W (t0.1+1),t0.2) [0])))
(.req 49 (t0.2.length≤1048576) λh1 =>
(.callP (listR_c t0.2 h1)
(.say (ck (pureBLs [(t0.2.map AV.int)])) (.ret (listT t0.2))))))))
def bitsR_vc(b:Int)(I0:(Int×(List Int))→Prop)(m0:(Int×(List Int))→Nat)(r0:ByteArray):Prop:=(bitsR_x b I0 m0).vp bitsR_e r0
theorem bitL_mem{b x:Int}(h:x∈bitL b):0≤x∧x<64:=by
 unfold bitL at h
 obtain⟨k,hk,rfl⟩:=List.mem_map.mp h
 have:=List.mem_range.mp (List.mem_filter.mp hk).1
 omega
theorem bitL_len(b:Int):(bitL b).length≤64:=by
 have:=List.length_filter_le b.toNat.testBit (List.range 64)
 rw[List.length_range]at this
 unfold bitL;rw[List.length_map];exact this
theorem bitsT_size(b:Int):(bitsT b).size≤1500:=by
 have h:=listT_size (l:=bitL b) λx hx=>by have:=bitL_mem hx;omega
 have:=bitL_len b
 unfold bitsT;omega
theorem u64_ok{b:Int}(h:Go.Am.inK .u64 b):0≤b∧b<18446744073709551616:=by
 replace h:IntKind.u64.min≤b∧b≤IntKind.u64.max:=h
 simp[IntKind.min,IntKind.max,IntKind.bits,IntKind.signed]at h
 omega
theorem bitsR_p(b:Int)(ok:bitsR_a b):∃I m,bitsR_vc b I m (bitsR b):=by
 have hb:0≤b∧b<18446744073709551616:=by
  simp only[bitsR_a,okL,AV.ok,plainV,and_true]at ok
  exact u64_ok ok
 refine⟨λt=>∃k:Nat,t.1=k∧k≤64∧t.2=((List.range k).filter b.toNat.testBit).map λ(k:Nat)=>(k:Int),λt=>64-t.1.toNat,?_⟩
 dsimp only[bitsR_vc,bitsR_x,bitsR_s,Ax.vp,Ax.vc];simp only[vcU,rfU,List.length_map]
 refine⟨⟨0,rfl,by omega,rfl⟩,?_⟩
 rintro⟨_,_⟩ ⟨k,rfl,hk,rfl⟩
 simp only
 have hl:(((List.range k).filter b.toNat.testBit).map λ(k:Nat)=>(k:Int)).length≤k:=by
  rw[List.length_map]
  have:=List.length_filter_le b.toNat.testBit (List.range k)
  rw[List.length_range]at this;exact this
 have hs:((List.range (k+1)).filter b.toNat.testBit).map (λ(k:Nat)=>(k:Int))=((List.range k).filter b.toNat.testBit).map (λ(k:Nat)=>(k:Int))++(if b.toNat.testBit k=true then [(k:Int)]else []):=by
  rw[List.range_succ,List.filter_append,List.map_append,List.filter_cons]
  split<;>rfl
 refine⟨λc=>?_,λc=>?_⟩
 ·have hw:IntKind.u64.wrap (k:Int)=(k:Int):=wrap_u64 (by omega)
  have he:(bAnd .u64 (shrI .u64 b (k:Int)) 1==1)=b.toNat.testBit k:=by
   have:=bit_eq (a:=b.toNat) (b:=k) (by omega) (by omega)
   rw[Int.toNat_of_nonneg hb.1]at this;exact this
  rw[hw,he,W_succ (n:=64) (by omega) (by omega)]
  refine⟨by omega,λe=>⟨by omega,⟨k+1,rfl,by omega,by rw[hs,if_pos e]⟩,by omega⟩,λe=>⟨⟨k+1,rfl,by omega,by rw[hs,if_neg (by rw[e];simp),List.append_nil]⟩,by omega⟩⟩
 ·have:k=64:=by omega
  subst this
  exact⟨by omega,pureBLs_int _,rfl⟩
def bitsR_c(b:Int):PC Tryd.prog:=⟨63,[.k],[.val (.int .u64 b)],bitsR_e (bitsT b),PSpec.of_ok λok=>(bitsR_p b ok).elim λI0 h=>h.elim λm0 h=>mxP_of (sh:=.k) (enc:=bitsR_e) (a:=(bitsR_x b I0 m0).an) h (by kernel_rfl) (AV.pureB_ok rfl),fnB_ok (by kernel_rfl)⟩
def crsT(c:Crs):ByteArray:=itoa c.frm++B [45]++itoa c.to++B [32]++bitsT c.bits
def dlrT(d:Dlr):ByteArray:=B [97,116,32]++itoa d.router++B [32]++bitsT d.bits
def losT(l:Los):ByteArray:=B [108,111,115,116,32]++itoa l.router++B [32]++bitsT l.bits
def trcT(t:Trc):List ByteArray:=(t.cr.map crsT++t.dl.map dlrT)++t.lo.map losT
theorem map_step{α β:Type}{l:List α}{f:α→β}{k:Nat}{x:α}(hx:l[k]?=some x)(base:List β):base++(l.take k).map f++[f x]=base++(l.take (k+1)).map f:=by
 rw[take_succ hx,List.map_append,List.append_assoc];rfl
def trcR_a(t:Trc):Prop:=okL [.agg [.sl 11 (t.dl.map Dlr.v) false,.sl 3 (t.cr.map Crs.v) false,.sl 2 (t.lo.map Los.v) false]]
def trcR_n0(t:Trc)(t0:Int×(List ByteArray)):NF:=⟨[(1,.k,.ref 0 0),(3,.k,.vec 1),(11,.k,.sl 3 (t.cr.map Crs.v) false),(12,.k,.int ((t.cr.map Crs.v).length:Int)),(13,.k,.int t0.1)],[.box (.agg [.sl 11 (t.dl.map Dlr.v) false,.sl 3 (t.cr.map Crs.v) false,.sl 2 (t.lo.map Los.v) false]),.vec 1 (t0.2.map AV.str) (pureBL_map (λ_=>rfl) t0.2)]⟩
def trcR_n1(t:Trc)(t1:Int×(List ByteArray)):NF:=⟨[(1,.k,.ref 0 0),(3,.k,.vec 1),(35,.k,.sl 11 (t.dl.map Dlr.v) false),(36,.k,.int ((t.dl.map Dlr.v).length:Int)),(37,.k,.int t1.1)],[.box (.agg [.sl 11 (t.dl.map Dlr.v) false,.sl 3 (t.cr.map Crs.v) false,.sl 2 (t.lo.map Los.v) false]),.vec 1 (t1.2.map AV.str) (pureBL_map (λ_=>rfl) t1.2)]⟩
def trcR_n2(t:Trc)(t2:Int×(List ByteArray)):NF:=⟨[(3,.k,.vec 0),(56,.k,.sl 2 (t.lo.map Los.v) false),(57,.k,.int ((t.lo.map Los.v).length:Int)),(58,.k,.int t2.1)],[.vec 1 (t2.2.map AV.str) (pureBL_map (λ_=>rfl) t2.2)]⟩
@[reducible] def trcR_s:Nat→Type
 | 0=>Int×(List ByteArray)
 | 1=>Int×(List ByteArray)
 | 2=>Int×(List ByteArray)
 | _=>Unit
def trcR_e(r:(List ByteArray)):AV:=.sl 1 (r.map AV.str) false
def trcR_x(t:Trc)(I0:(Int×(List ByteArray))→Prop)(m0:(Int×(List ByteArray))→Nat)(I1:Int×(List ByteArray)→(Int×(List ByteArray))→Prop)(m1:Int×(List ByteArray)→(Int×(List ByteArray))→Nat)(I2:Int×(List ByteArray)→Int×(List ByteArray)→(Int×(List ByteArray))→Prop)(m2:Int×(List ByteArray)→Int×(List ByteArray)→(Int×(List ByteArray))→Nat):Ax Tryd.prog trcR_s ((List ByteArray)):=
 (.cmdL (.nilT 3 1) (.loop 0 (trcR_n0 t) I0 m0 (0,[]) [0,112] λ(t0:Int×(List ByteArray)) b0 =>
(.br 18 (decide (t0.1<((t.cr.map Crs.v).length:Int))) (.el 18 Crs.v t.cr (λR=>Rf (t.cr.map Crs.v) (ck (decide (0≤t0.1)) (ck (decide (t0.1<(t.cr.length:Int)))
(∀x1,t.cr[t0.1.toNat]?=some x1 →
(R x1))))) λx1 =>
(.callP (decT_c x1.frm)
(.say (ck (decide ((itoa x1.frm).size+(B [45]).size≤maxLen))) (.callP (decT_c x1.to)
(.say (λR=>ck (decide (((itoa x1.frm)++(B [45])).size+(itoa x1.to).size≤maxLen))
((ck (decide ((((itoa x1.frm)++(B [45]))++(itoa x1.to)).size+(B [32]).size≤maxLen))
R))) (.callP (bitsR_c x1.bits)
(.say (λR=>ck (decide (((((itoa x1.frm)++(B [45]))++(itoa x1.to))++(B [32])).size+(bitsT x1.bits).size≤maxLen))
((Rf (α:=List AV) (t0.2.map AV.str) (Rf (α:=List AV) [.str (((((itoa x1.frm)++(B [45]))++(itoa x1.to))++(B [32]))++(bitsT x1.bits))]
(ck (decide (t0.2.length+1≤1048576))
R))))) (.app 322 AV.str t0.2 [((((itoa x1.frm)++(B [45]))++(itoa x1.to))++(B [32]))++(bitsT x1.bits)]
(.bk 0 b0 (W (t0.1+1),t0.2++[((((itoa x1.frm)++(B [45]))++(itoa x1.to))++(B [32]))++(bitsT x1.bits)]) [0,322])))))))))
(.loop 1 (trcR_n1 t) (I1 t0) (m1 t0) (0,t0.2) [0,1] λ(t1:Int×(List ByteArray)) b1 =>
(.br 18 (decide (t1.1<((t.dl.map Dlr.v).length:Int))) (.el 18 Dlr.v t.dl (λR=>Rf (t.dl.map Dlr.v) (ck (decide (0≤t1.1)) (ck (decide (t1.1<(t.dl.length:Int)))
(∀x2,t.dl[t1.1.toNat]?=some x2 →
(R x2))))) λx2 =>
(.callP (decT_c x2.router)
(.say (λR=>ck (decide ((B [97,116,32]).size+(itoa x2.router).size≤maxLen))
((ck (decide (((B [97,116,32])++(itoa x2.router)).size+(B [32]).size≤maxLen))
R))) (.callP (bitsR_c x2.bits)
(.say (λR=>ck (decide ((((B [97,116,32])++(itoa x2.router))++(B [32])).size+(bitsT x2.bits).size≤maxLen))
((Rf (α:=List AV) (t1.2.map AV.str) (Rf (α:=List AV) [.str ((((B [97,116,32])++(itoa x2.router))++(B [32]))++(bitsT x2.bits))]
(ck (decide (t1.2.length+1≤1048576))
R))))) (.app 274 AV.str t1.2 [(((B [97,116,32])++(itoa x2.router))++(B [32]))++(bitsT x2.bits)]
(.bk 1 b1 (W (t1.1+1),t1.2++[(((B [97,116,32])++(itoa x2.router))++(B [32]))++(bitsT x2.bits)]) [0,274])))))))
(.loop 2 (trcR_n2 t) (I2 t0 t1) (m2 t0 t1) (0,t1.2) [1] λ(t2:Int×(List ByteArray)) b2 =>
(.br 17 (decide (t2.1<((t.lo.map Los.v).length:Int))) (.el 17 Los.v t.lo (λR=>Rf (t.lo.map Los.v) (ck (decide (0≤t2.1)) (ck (decide (t2.1<(t.lo.length:Int)))
(∀x3,t.lo[t2.1.toNat]?=some x3 →
(R x3))))) λx3 =>
(.callP (decT_c x3.router)
(.say (λR=>ck (decide ((B [108,111,115,116,32]).size+(itoa x3.router).size≤maxLen))
((ck (decide (((B [108,111,115,116,32])++(itoa x3.router)).size+(B [32]).size≤maxLen))
R))) (.callP (bitsR_c x3.bits)
(.say (λR=>ck (decide ((((B [108,111,115,116,32])++(itoa x3.router))++(B [32])).size+(bitsT x3.bits).size≤maxLen))
((Rf (α:=List AV) (t2.2.map AV.str) (Rf (α:=List AV) [.str ((((B [108,111,115,116,32])++(itoa x3.router))++(B [32]))++(bitsT x3.bits))]
(ck (decide (t2.2.length+1≤1048576))
R))))) (.app 257 AV.str t2.2 [(((B [108,111,115,116,32])++(itoa x3.router))++(B [32]))++(bitsT x3.bits)]
(.bk 2 b2 (W (t2.1+1),t2.2++[(((B [108,111,115,116,32])++(itoa x3.router))++(B [32]))++(bitsT x3.bits)]) [257])))))))
(.say (Rf (t2.2.map AV.str)) (.cmdL (.frzE 0 (t2.2.map AV.str) (pureBL_map (λ_=>rfl) t2.2)) (.ret (t2.2)))))))))))
def trcR_vc(t:Trc)(I0:(Int×(List ByteArray))→Prop)(m0:(Int×(List ByteArray))→Nat)(I1:Int×(List ByteArray)→(Int×(List ByteArray))→Prop)(m1:Int×(List ByteArray)→(Int×(List ByteArray))→Nat)(I2:Int×(List ByteArray)→Int×(List ByteArray)→(Int×(List ByteArray))→Prop)(m2:Int×(List ByteArray)→Int×(List ByteArray)→(Int×(List ByteArray))→Nat)(r0:(List ByteArray)):Prop:=(trcR_x t I0 m0 I1 m1 I2 m2).vp trcR_e r0
theorem trcR_p(t:Trc)(h:t.cr.length≤200000∧t.dl.length≤200000∧t.lo.length≤200000)(ok:trcR_a t):∃I0 m0 I1 m1 I2 m2,trcR_vc t I0 m0 I1 m1 I2 m2 (trcT t):=by
 refine⟨λs=>∃k:Nat,s.1=k∧k≤t.cr.length∧s.2=[]++(t.cr.take k).map crsT,λs=>t.cr.length-s.1.toNat,
  λ_ s=>∃k:Nat,s.1=k∧k≤t.dl.length∧s.2=t.cr.map crsT++(t.dl.take k).map dlrT,λ_ s=>t.dl.length-s.1.toNat,
  λ_ _ s=>∃k:Nat,s.1=k∧k≤t.lo.length∧s.2=(t.cr.map crsT++t.dl.map dlrT)++(t.lo.take k).map losT,λ_ _ s=>t.lo.length-s.1.toNat,?_⟩
 obtain⟨h1,h2,h3⟩:=h
 simp only[trcR_a,okU,Blk.ok,plainV,List.length_map]at ok
 dsimp only[trcR_vc,trcR_x,trcR_s,Ax.vp,Ax.vc];simp only[vcU,rfU,List.length_map]
 have hml:=maxLen_eq
 refine⟨⟨0,rfl,by omega,rfl⟩,?_⟩
 rintro⟨_,_⟩ ⟨k,rfl,hk,rfl⟩
 simp only[Int.toNat_natCast]
 refine⟨λc=>⟨by omega,c,λx hx=>?_⟩,λc=>⟨⟨0,rfl,by omega,by rw[List.take_of_length_le (by omega)];simp⟩,?_⟩⟩
 ·have o:=okL_iff.mp ok.2.1.2 _ (List.mem_map_of_mem (mem_of_get hx))
  simp only[Crs.v,okU,plainV]at o
  have i1:=itoa_len o.1
  have i2:=itoa_len o.2.1
  have i3:=bitsT_size x.bits
  have e:=map_step (f:=crsT) hx []
  rw[W_succ (n:=t.cr.length) (by omega) (by omega)]
  simp only[ByteArray.size_append,B_size,List.length_cons,List.length_nil]at i1 i2 i3 ⊢
  exact⟨by omega,by omega,by omega,by omega,by simp;omega,⟨k+1,rfl,by omega,e⟩,by omega⟩
 rintro⟨_,_⟩ ⟨k2,rfl,hk2,rfl⟩
 simp only[Int.toNat_natCast]
 refine⟨λc2=>⟨by omega,c2,λx hx=>?_⟩,λc2=>⟨⟨0,rfl,by omega,by rw[List.take_of_length_le (by omega)];simp⟩,?_⟩⟩
 ·have o:=okL_iff.mp ok.1.2 _ (List.mem_map_of_mem (mem_of_get hx))
  simp only[Dlr.v,okU,plainV]at o
  have i1:=itoa_len o.1
  have i3:=bitsT_size x.bits
  have e:=map_step (f:=dlrT) hx (t.cr.map crsT)
  rw[W_succ (n:=t.dl.length) (by omega) (by omega)]
  simp only[ByteArray.size_append,B_size,List.length_cons,List.length_nil]at i1 i3 ⊢
  exact⟨by omega,by omega,by omega,by simp;omega,⟨k2+1,rfl,by omega,e⟩,by omega⟩
 rintro⟨_,_⟩ ⟨k3,rfl,hk3,rfl⟩
 simp only[Int.toNat_natCast]
 refine⟨λc3=>⟨by omega,c3,λx hx=>?_⟩,λc3=>?_⟩
 ·have o:=okL_iff.mp ok.2.2.2 _ (List.mem_map_of_mem (mem_of_get hx))
  simp only[Los.v,okU,plainV]at o
  have i1:=itoa_len o.1
  have i3:=bitsT_size x.bits
  have e:=map_step (f:=losT) hx (t.cr.map crsT++t.dl.map dlrT)
  rw[W_succ (n:=t.lo.length) (by omega) (by omega)]
  simp only[ByteArray.size_append,B_size,List.length_cons,List.length_nil]at i1 i3 ⊢
  exact⟨by omega,by omega,by omega,by simp;omega,⟨k3+1,rfl,by omega,e⟩,by omega⟩
 ·rw[List.take_of_length_le (by omega)];rfl
def trcR_c(t:Trc)(h:t.cr.length≤200000∧t.dl.length≤200000∧t.lo.length≤200000):PC Tryd.prog:=⟨26,[(.a [(.s 11),(.s 3),(.s 2)])],[.agg [.sl 11 (t.dl.map Dlr.v) false,.sl 3 (t.cr.map Crs.v) false,.sl 2 (t.lo.map Los.v) false]],trcR_e (trcT t),PSpec.of_ok λok=>(trcR_p t h ok).elim λI0 h=>h.elim λm0 h=>h.elim λI1 h=>h.elim λm1 h=>h.elim λI2 h=>h.elim λm2 h=>mxP_of (sh:=(.s 1)) (enc:=trcR_e) (a:=(trcR_x t I0 m0 I1 m1 I2 m2).an) h (by kernel_rfl) (AV.pureB_ok rfl),fnB_ok (by kernel_rfl)⟩
def rtrT(L:List Int)(p:Nat)(a:Tpl):Int×Nat:=
 if a.rs=[]then(pickI [0,98,100] (rawV L p),rawP L p)
 else if Mod (rawV L p) 40=39 then(pickI [0,98,100] (rawV L (rawP L p)),rawP L (rawP L p))
 else((a.rs.getD (Mod (rawV L (rawP L p)) a.rs.length).toNat ⟨0,false⟩).id,rawP L (rawP L p))
def rtrT_a(L:(List Int))(p:Nat)(a1:Tpl):Prop:=okL [.ref 0 0,.agg [.sl 2 (a1.rs.map Rtr.v) false,.sl 5 (a1.ls.map Lnk.v) false]]∧(.box (.agg [.sl 1 (L.map AV.int) false,.int ((p:Nat):Int)]):Blk).ok
def rtrT_n0(L:(List Int))(a1:Tpl)(t0:Bool×Nat):NF:=⟨[(0,.k,.ref 0 0),(3,.k,.ref 1 0),(13,.k,.bool t0.1)],[.box (.agg [.sl 1 (L.map AV.int) false,.int ((t0.2:Nat):Int)]),.box (.agg [.sl 2 (a1.rs.map Rtr.v) false,.sl 5 (a1.ls.map Lnk.v) false])]⟩
@[reducible] def rtrT_s:Nat→Type
 | 0=>Bool×Nat
 | _=>Unit
def rtrT_e(r:Tap×Int):AV:=.int r.2
def rtrT_b(r:Tap×Int):List (Option Blk):=[some (.box (.agg [.sl 1 (r.1.L.map AV.int) false,.int ((r.1.p:Nat):Int)]))]
def rtrT_x(L:(List Int))(p:Nat)(a1:Tpl)(I0:(Bool×Nat)→Prop):Ax Tryd.prog rtrT_s (Tap×Int):=
 (.pass (.pass (.join 0 (rtrT_n0 L a1) (λ(t0:Bool×Nat)=>I0 t0) (λb0=>(.br 113 (((a1.rs.map Rtr.v).length:Int)==0) (.bk 0 b0 (true,p) [0,1])
(.callH [0] (N_h L p 40) 129
(.bk 0 b0 ((Mod (rawV L p) 40)==39,rawP L p) [0,1])))) λ(t0:Bool×Nat) =>
(.br 2 t0.1 (.req 34 ([0,98,100]≠[]) λh1 =>
(.callH [0] (Pick_h L t0.2 [0,98,100] h1) 34
(.retH ((⟨L,rawP L t0.2⟩:Tap),pickI [0,98,100] (rawV L t0.2)) ⟨[(4,.k,.int (pickI [0,98,100] (rawV L t0.2)))],[.box (.agg [.sl 1 (L.map AV.int) false,.int (((rawP L t0.2):Nat):Int)])]⟩ [0])))
(.callH [0] (N_h L t0.2 ((a1.rs.map Rtr.v).length:Int)) 98
(.el 114 Rtr.v a1.rs (λR=>Rf (a1.rs.map Rtr.v) (ck (decide (0≤(Mod (rawV L t0.2) ((a1.rs.map Rtr.v).length:Int)))) (ck (decide ((Mod (rawV L t0.2) ((a1.rs.map Rtr.v).length:Int))<(a1.rs.length:Int)))
(∀x2,a1.rs[(Mod (rawV L t0.2) ((a1.rs.map Rtr.v).length:Int)).toNat]?=some x2 →
(R x2))))) λx2 =>
(.retH ((⟨L,rawP L t0.2⟩:Tap),x2.id) ⟨[(4,.k,.int x2.id)],[.box (.agg [.sl 1 (L.map AV.int) false,.int (((rawP L t0.2):Nat):Int)])]⟩ [0])))))))
def rtrT_vc(L:(List Int))(p:Nat)(a1:Tpl)(I0:(Bool×Nat)→Prop)(r0:Tap×Int):Prop:=(rtrT_x L p a1 I0).vc rtrT_e rtrT_b r0
theorem rtrT_p(L:List Int)(p:Nat)(a:Tpl)(ok:rtrT_a L p a):∃I,rtrT_vc L p a I ((⟨L,(rtrT L p a).2⟩:Tap),(rtrT L p a).1):=by
 refine⟨λt=>t=if a.rs=[]then(true,p)else(decide (Mod (rawV L p) 40=39),rawP L p),?_⟩
 dsimp only[rtrT_vc,rtrT_x,rtrT_s,Ax.vp,Ax.vc];simp only[vcU,rfU,List.length_map]
 refine⟨⟨λc=>?_,λc=>?_⟩,?_⟩
 ·have:a.rs=[]:=List.eq_nil_of_length_eq_zero (by have:=eq_of_beq c;omega)
  rw[if_pos this]
 ·have:¬a.rs=[]:=λe=>by rw[e]at c;simp at c
  rw[if_neg this]
  by_cases d:Mod (rawV L p) 40=39<;>simp[d]
 rintro⟨b,q⟩ hb
 by_cases e:a.rs=[]
 ·rw[if_pos e]at hb
  cases hb
  refine⟨λ_=>⟨by simp,by rw[rtrT,if_pos e]⟩,λc=>by simp at c⟩
 ·rw[if_neg e]at hb
  simp only[Prod.mk.injEq]at hb
  obtain⟨rfl,rfl⟩:=hb
  have hl:0<a.rs.length:=List.length_pos_iff.mpr e
  have hm:=Mod_range (x:=rawV L (rawP L p)) (show 1≤(a.rs.length:Int) by omega)
  refine⟨λc=>⟨by simp,?_⟩,λc=>⟨by simp only;omega,by simp only;omega,λx hx=>?_⟩⟩
  ·have c:=of_decide_eq_true c
   rw[rtrT,if_neg e,if_pos c]
  ·have c:=of_decide_eq_false c
   rw[rtrT,if_neg e,if_neg c,List.getD_eq_getElem?_getD,hx];rfl
def rtrT_h(L:(List Int))(p:Nat)(a1:Tpl):HC Tryd.prog:=⟨23,[.k,(.a [(.s 2),(.s 5)])],[.ref 0 0,.agg [.sl 2 (a1.rs.map Rtr.v) false,.sl 5 (a1.ls.map Lnk.v) false]],[.box (.agg [.sl 1 (L.map AV.int) false,.int ((p:Nat):Int)])],rtrT_e ((⟨L,(rtrT L p a1).2⟩:Tap),(rtrT L p a1).1),rtrT_b ((⟨L,(rtrT L p a1).2⟩:Tap),(rtrT L p a1).1),HSpec.of_okh λok ok2=>have ok:rtrT_a L p a1:=⟨ok,ok2 _ (by simp)⟩;(rtrT_p L p a1 ok).elim λI0 h=>mxH_of (sh:=.k) (enc:=rtrT_e) (hB:=rtrT_b) (a:=(rtrT_x L p a1 I0).an) h (by kernel_rfl),fnB_ok (by kernel_rfl),HcOk.of (by simp[hcB,belBL,AV.belB,allB,okBk,okBkO,rtrT_e,rtrT_b,pureBL_map (v:=AV.int) (λ_=>rfl),pureBL_map (v:=Lnk.v) (λ_=>rfl),pureBL_map (v:=Rtr.v) (λ_=>rfl)])⟩
theorem words2(x y:Anyv):words [x,y]=x.txt++B [32]++y.txt:=by
 rw[words_eq]
 have e:Lib.join ([x,y].map λx=>x.txt.data.toList) [32]=(x.txt.data.toList++[32])++y.txt.data.toList:=by simp[Lib.join_cons,Lib.joinTail]
 rw[e,←B_app,←B_app,B_of,B_of]
def addL(head:ByteArray)(bits:Int)(out:List ByteArray):List ByteArray:=out++[words [.s head,.s (bitsT bits)]]
def addL_a(head:ByteArray)(bits:Int)(out:(List ByteArray)):Prop:=okL [.str head,.val (.int .u64 bits),.ref 0 0]∧(.box (.vec 1):Blk).ok∧(.vec 1 (out.map AV.str):Blk).ok
def addL_e(r:(List ByteArray)):AV:=.tup []
def addL_b(r:(List ByteArray)):List (Option Blk):=[some (.box (.vec 2)),none,some (.vec 1 (r.map AV.str))]
def addL_x(head:ByteArray)(bits:Int)(out:(List ByteArray)):Ax Tryd.prog noS ((List ByteArray)):=
 (.callP (lstB_c bits)
(.req 82 ((bitL bits).length≤1048576) λh1 =>
(.callP (listT_c (bitL bits) h1)
(.req 130 ([Anyv.s head,Anyv.s (listT (bitL bits))].length≤1000) λh2 =>
(.req 130 ((words [Anyv.s head,Anyv.s (listT (bitL bits))]).size≤1000000000) λh3 =>
(.callP (words_c [Anyv.s head,Anyv.s (listT (bitL bits))] h2 h3)
(.say (λR=>Rf (α:=List AV) (out.map AV.str) (Rf (α:=List AV) [.str (words [Anyv.s head,Anyv.s (listT (bitL bits))])]
(ck (decide (out.length+1≤1048576))
R))) (.app 162 AV.str out [words [Anyv.s head,Anyv.s (listT (bitL bits))]]
(.retH (out++[words [Anyv.s head,Anyv.s (listT (bitL bits))]]) ⟨[],[.box (.vec 2),.gone,.vec 1 ((out++[words [Anyv.s head,Anyv.s (listT (bitL bits))]]).map AV.str) (pureBL_map (λ_=>rfl) (out++[words [Anyv.s head,Anyv.s (listT (bitL bits))]]))]⟩ [0,1,162])))))))))
def addL_vc(head:ByteArray)(bits:Int)(out:(List ByteArray))(r0:(List ByteArray)):Prop:=(addL_x head bits out).vc addL_e addL_b r0
theorem addL_p(head:ByteArray)(bits:Int)(out:List ByteArray)(h1:head.size≤1000)(h2:out.length≤1000000)(ok:addL_a head bits out):addL_vc head bits out (addL head bits out):=by
 dsimp only[addL_vc,addL_x,noS,Ax.vp,Ax.vc];simp only[vcU,rfU,List.length_map]
 have h3:=bitsT_size bits
 have h4:=bitL_len bits
 refine⟨by omega,by simp,?_,by omega,rfl⟩
 show(words [.s head,.s (bitsT bits)]).size≤_
 rw[words2,ByteArray.size_append,ByteArray.size_append,B_size]
 show head.size+1+(bitsT bits).size≤_
 omega
def addL_h(head:ByteArray)(bits:Int)(out:(List ByteArray))(h1:head.size≤1000)(h2:out.length≤1000000):HC Tryd.prog:=⟨60,[.k,.k,.k],[.str head,.val (.int .u64 bits),.ref 0 0],[.box (.vec 1),.vec 1 (out.map AV.str)],addL_e (addL head bits out),addL_b (addL head bits out),HSpec.of_okh λok ok2=>have ok:addL_a head bits out:=⟨ok,ok2 _ (by simp),ok2 _ (by simp)⟩;mxH_of (sh:=.k) (enc:=addL_e) (hB:=addL_b) (a:=(addL_x head bits out).an) (addL_p head bits out h1 h2 ok) (by kernel_rfl),fnB_ok (by kernel_rfl),HcOk.of (by simp[hcB,belBL,AV.belB,allB,okBk,okBkO,addL_e,addL_b,pureBL_map (v:=AV.str) (λ_=>rfl)])⟩
theorem addL_hop(x:Crs)(o:List ByteArray):addL (hopT x.frm x.to) x.bits o=o++[crsT x]:=by
 rw[addL,words2];rfl
theorem addL_at(x:Dlr)(o:List ByteArray):addL (words [Anyv.s (B [97,116]),Anyv.n x.router]) x.bits o=o++[dlrT x]:=by
 rw[addL,words2,words2]
 show o++[B [97,116]++B [32]++itoa x.router++B [32]++bitsT x.bits]=_
 rw[B_app];rfl
theorem addL_lost(x:Los)(o:List ByteArray):addL (words [Anyv.s (B [108,111,115,116]),Anyv.n x.router]) x.bits o=o++[losT x]:=by
 rw[addL,words2,words2]
 show o++[B [108,111,115,116]++B [32]++itoa x.router++B [32]++bitsT x.bits]=_
 rw[B_app];rfl
def trcP_a(t:Trc):Prop:=okL [.agg [.sl 11 (t.dl.map Dlr.v) false,.sl 3 (t.cr.map Crs.v) false,.sl 2 (t.lo.map Los.v) false]]
def trcP_n0(t:Trc)(t0:Int×(List ByteArray)):NF:=⟨[(1,.k,.ref 0 0),(3,.k,.ref 1 0),(4,.k,.func 60 [.ref 1 0]),(13,.k,.sl 3 (t.cr.map Crs.v) false),(14,.k,.int ((t.cr.map Crs.v).length:Int)),(15,.k,.int t0.1)],[.box (.agg [.sl 11 (t.dl.map Dlr.v) false,.sl 3 (t.cr.map Crs.v) false,.sl 2 (t.lo.map Los.v) false]),.box (.vec 2),.vec 1 (t0.2.map AV.str) (pureBL_map (λ_=>rfl) t0.2)]⟩
def trcP_n1(t:Trc)(t1:Int×(List ByteArray)):NF:=⟨[(1,.k,.ref 0 0),(3,.k,.ref 1 0),(4,.k,.func 60 [.ref 1 0]),(30,.k,.sl 11 (t.dl.map Dlr.v) false),(31,.k,.int ((t.dl.map Dlr.v).length:Int)),(32,.k,.int t1.1)],[.box (.agg [.sl 11 (t.dl.map Dlr.v) false,.sl 3 (t.cr.map Crs.v) false,.sl 2 (t.lo.map Los.v) false]),.box (.vec 2),.vec 1 (t1.2.map AV.str) (pureBL_map (λ_=>rfl) t1.2)]⟩
def trcP_n2(t:Trc)(t2:Int×(List ByteArray)):NF:=⟨[(3,.k,.ref 0 0),(4,.k,.func 60 [.ref 0 0]),(49,.k,.sl 2 (t.lo.map Los.v) false),(50,.k,.int ((t.lo.map Los.v).length:Int)),(51,.k,.int t2.1)],[.box (.vec 1),.vec 1 (t2.2.map AV.str) (pureBL_map (λ_=>rfl) t2.2)]⟩
@[reducible] def trcP_s:Nat→Type
 | 0=>Int×(List ByteArray)
 | 1=>Int×(List ByteArray)
 | 2=>Int×(List ByteArray)
 | _=>Unit
def trcP_e(r:(List ByteArray)):AV:=.sl 1 (r.map AV.str) false
def trcP_x(t:Trc)(I0:(Int×(List ByteArray))→Prop)(m0:(Int×(List ByteArray))→Nat)(I1:Int×(List ByteArray)→(Int×(List ByteArray))→Prop)(m1:Int×(List ByteArray)→(Int×(List ByteArray))→Nat)(I2:Int×(List ByteArray)→Int×(List ByteArray)→(Int×(List ByteArray))→Prop)(m2:Int×(List ByteArray)→Int×(List ByteArray)→(Int×(List ByteArray))→Nat):Ax Tryd.prog trcP_s ((List ByteArray)):=
 (.wait (.wait (.cmd (.nilC 32 1) (.loop 0 (trcP_n0 t) I0 m0 (0,[]) [0,32,48] λ(t0:Int×(List ByteArray)) b0 =>
(.br 19 (decide (t0.1<((t.cr.map Crs.v).length:Int))) (.el 19 Crs.v t.cr (λR=>Rf (t.cr.map Crs.v) (ck (decide (0≤t0.1)) (ck (decide (t0.1<(t.cr.length:Int)))
(∀x1,t.cr[t0.1.toNat]?=some x1 →
(R x1))))) λx1 =>
(.callP (hopT_c x1.frm x1.to)
(.req 211 ((hopT x1.frm x1.to).size≤1000) λh2 =>
(.req 211 (t0.2.length≤1000000) λh3 =>
(.callH [1,2] (addL_h (hopT x1.frm x1.to) x1.bits t0.2 h2 h3) 211
(.bk 0 b0 (W (t0.1+1),addL (hopT x1.frm x1.to) x1.bits t0.2) [0,1,211]))))))
(.loop 1 (trcP_n1 t) (I1 t0) (m1 t0) (0,t0.2) [0,1,2] λ(t1:Int×(List ByteArray)) b1 =>
(.br 19 (decide (t1.1<((t.dl.map Dlr.v).length:Int))) (.el 19 Dlr.v t.dl (λR=>Rf (t.dl.map Dlr.v) (ck (decide (0≤t1.1)) (ck (decide (t1.1<(t.dl.length:Int)))
(∀x4,t.dl[t1.1.toNat]?=some x4 →
(R x4))))) λx4 =>
(.req 179 ([Anyv.s (B [97,116]),Anyv.n x4.router].length≤1000) λh5 =>
(.req 179 ((words [Anyv.s (B [97,116]),Anyv.n x4.router]).size≤1000000000) λh6 =>
(.callP (words_c [Anyv.s (B [97,116]),Anyv.n x4.router] h5 h6)
(.req 243 ((words [Anyv.s (B [97,116]),Anyv.n x4.router]).size≤1000) λh7 =>
(.req 243 (t1.2.length≤1000000) λh8 =>
(.callH [1,2] (addL_h (words [Anyv.s (B [97,116]),Anyv.n x4.router]) x4.bits t1.2 h7 h8) 243
(.bk 1 b1 (W (t1.1+1),addL (words [Anyv.s (B [97,116]),Anyv.n x4.router]) x4.bits t1.2) [0,1,243]))))))))
(.loop 2 (trcP_n2 t) (I2 t0 t1) (m2 t0 t1) (0,t1.2) [1,2] λ(t2:Int×(List ByteArray)) b2 =>
(.br 18 (decide (t2.1<((t.lo.map Los.v).length:Int))) (.el 18 Los.v t.lo (λR=>Rf (t.lo.map Los.v) (ck (decide (0≤t2.1)) (ck (decide (t2.1<(t.lo.length:Int)))
(∀x9,t.lo[t2.1.toNat]?=some x9 →
(R x9))))) λx9 =>
(.req 178 ([Anyv.s (B [108,111,115,116]),Anyv.n x9.router].length≤1000) λh10 =>
(.req 178 ((words [Anyv.s (B [108,111,115,116]),Anyv.n x9.router]).size≤1000000000) λh11 =>
(.callP (words_c [Anyv.s (B [108,111,115,116]),Anyv.n x9.router] h10 h11)
(.req 226 ((words [Anyv.s (B [108,111,115,116]),Anyv.n x9.router]).size≤1000) λh12 =>
(.req 226 (t2.2.length≤1000000) λh13 =>
(.callH [0,1] (addL_h (words [Anyv.s (B [108,111,115,116]),Anyv.n x9.router]) x9.bits t2.2 h12 h13) 226
(.bk 2 b2 (W (t2.1+1),addL (words [Anyv.s (B [108,111,115,116]),Anyv.n x9.router]) x9.bits t2.2) [0,226]))))))))
(.say (Rf (t2.2.map AV.str)) (.cmd (.frzE 1 (t2.2.map AV.str) (pureBL_map (λ_=>rfl) t2.2)) (.ret (t2.2)))))))))))))
def trcP_vc(t:Trc)(I0:(Int×(List ByteArray))→Prop)(m0:(Int×(List ByteArray))→Nat)(I1:Int×(List ByteArray)→(Int×(List ByteArray))→Prop)(m1:Int×(List ByteArray)→(Int×(List ByteArray))→Nat)(I2:Int×(List ByteArray)→Int×(List ByteArray)→(Int×(List ByteArray))→Prop)(m2:Int×(List ByteArray)→Int×(List ByteArray)→(Int×(List ByteArray))→Nat)(r0:(List ByteArray)):Prop:=(trcP_x t I0 m0 I1 m1 I2 m2).vp trcP_e r0
theorem trcP_p(t:Trc)(h:t.cr.length≤200000∧t.dl.length≤200000∧t.lo.length≤200000)(ok:trcP_a t):∃I0 m0 I1 m1 I2 m2,trcP_vc t I0 m0 I1 m1 I2 m2 (trcT t):=by
 refine⟨λs=>∃k:Nat,s.1=k∧k≤t.cr.length∧s.2=[]++(t.cr.take k).map crsT,λs=>t.cr.length-s.1.toNat,
  λ_ s=>∃k:Nat,s.1=k∧k≤t.dl.length∧s.2=t.cr.map crsT++(t.dl.take k).map dlrT,λ_ s=>t.dl.length-s.1.toNat,
  λ_ _ s=>∃k:Nat,s.1=k∧k≤t.lo.length∧s.2=(t.cr.map crsT++t.dl.map dlrT)++(t.lo.take k).map losT,λ_ _ s=>t.lo.length-s.1.toNat,?_⟩
 obtain⟨h1,h2,h3⟩:=h
 simp only[trcP_a,okU,Blk.ok,plainV,List.length_map]at ok
 dsimp only[trcP_vc,trcP_x,trcP_s,Ax.vp,Ax.vc];simp only[vcU,rfU,List.length_map]
 have hml:=maxLen_eq
 refine⟨⟨0,rfl,by omega,rfl⟩,?_⟩
 rintro⟨_,_⟩ ⟨k,rfl,hk,rfl⟩
 simp only[Int.toNat_natCast]
 refine⟨λc=>⟨by omega,c,λx hx=>?_⟩,λc=>⟨⟨0,rfl,by omega,by rw[List.take_of_length_le (by omega)];simp⟩,?_⟩⟩
 ·have o:=okL_iff.mp ok.2.1.2 _ (List.mem_map_of_mem (mem_of_get hx))
  simp only[Crs.v,okU,plainV]at o
  have i1:=hopT_size o.1 o.2.1
  have e:=map_step (f:=crsT) hx []
  rw[W_succ (n:=t.cr.length) (by omega) (by omega),addL_hop]
  exact⟨by omega,by simp;omega,⟨k+1,rfl,by omega,e⟩,by omega⟩
 rintro⟨_,_⟩ ⟨k2,rfl,hk2,rfl⟩
 simp only[Int.toNat_natCast]
 have hw:∀(a:List UInt8) (n:Int),-9223372036854775808≤n∧n≤9223372036854775807→(words [.s (B a),.n n]).size≤a.length+22:=λa n hn=>by
  have:=itoa_len hn
  rw[words2,ByteArray.size_append,ByteArray.size_append,B_size]
  show(B a).size+1+(itoa n).size≤_
  rw[B_size];omega
 refine⟨λc2=>⟨by omega,c2,λx hx=>?_⟩,λc2=>⟨⟨0,rfl,by omega,by rw[List.take_of_length_le (by omega)];simp⟩,?_⟩⟩
 ·have o:=okL_iff.mp ok.1.2 _ (List.mem_map_of_mem (mem_of_get hx))
  simp only[Dlr.v,okU,plainV]at o
  have i1:=hw [97,116] _ o.1
  have e:=map_step (f:=dlrT) hx (t.cr.map crsT)
  rw[W_succ (n:=t.dl.length) (by omega) (by omega),addL_at]
  simp only[List.length_cons,List.length_nil]at i1
  exact⟨by simp,by omega,by omega,by simp;omega,⟨k2+1,rfl,by omega,e⟩,by omega⟩
 rintro⟨_,_⟩ ⟨k3,rfl,hk3,rfl⟩
 simp only[Int.toNat_natCast]
 refine⟨λc3=>⟨by omega,c3,λx hx=>?_⟩,λc3=>?_⟩
 ·have o:=okL_iff.mp ok.2.2.2 _ (List.mem_map_of_mem (mem_of_get hx))
  simp only[Los.v,okU,plainV]at o
  have i1:=hw [108,111,115,116] _ o.1
  have e:=map_step (f:=losT) hx (t.cr.map crsT++t.dl.map dlrT)
  rw[W_succ (n:=t.lo.length) (by omega) (by omega),addL_lost]
  simp only[List.length_cons,List.length_nil]at i1
  exact⟨by simp,by omega,by omega,by simp;omega,⟨k3+1,rfl,by omega,e⟩,by omega⟩
 ·rw[List.take_of_length_le (by omega)];rfl
def trcP_c(t:Trc)(h:t.cr.length≤200000∧t.dl.length≤200000∧t.lo.length≤200000):PC Tryd.prog:=⟨24,[(.a [(.s 11),(.s 3),(.s 2)])],[.agg [.sl 11 (t.dl.map Dlr.v) false,.sl 3 (t.cr.map Crs.v) false,.sl 2 (t.lo.map Los.v) false]],trcP_e (trcT t),PSpec.of_ok λok=>(trcP_p t h ok).elim λI0 h=>h.elim λm0 h=>h.elim λI1 h=>h.elim λm1 h=>h.elim λI2 h=>h.elim λm2 h=>mxP_of (sh:=(.s 1)) (enc:=trcP_e) (a:=(trcP_x t I0 m0 I1 m1 I2 m2).an) h (by kernel_rfl) (AV.pureB_ok rfl),fnB_ok (by kernel_rfl)⟩
def eng_c:AC:=.reg [⟨(some 128),.faddr 1 (.t 5),none⟩,⟨(some 129),.load false 1 (.t 128),none⟩,⟨(some 130),.faddr 1 (.t 5),none⟩,⟨(some 131),.load false 1 (.t 130),none⟩,⟨(some 132),.len (.t 131),none⟩,⟨(some 133),.faddr 0 (.t 5),none⟩,⟨(some 134),.load false 1 (.t 133),none⟩,⟨(some 135),.min [(.t 132),(.t 134)],none⟩,⟨(some 136),.slice 4 (.t 129) none (some (.t 135)) none,none⟩,⟨(some 137),.faddr 1 (.t 5),none⟩,⟨none,.store 1 (.t 137) (.t 136),none⟩]
def eng_m(L:List Int)(p:Nat)(n:Int)(l:List Adj):NF:=
 ⟨[(0,.k,.ref 0 0),(4,.k,.ref 1 0),(5,.k,.ref 2 0)],[.box (Tap.v ⟨L,p⟩),.box (.agg [.int 0,.sl 0 [] true]),.box (.agg [.int n,.vec 3]),.vec 4 (l.map Adj.v) (pureBL_map (λ_=>rfl) l)]⟩
theorem eng_n(r:Int):0≤pickI [64,64,32,16] r:=by
 have:=pickI_mem (l:=[64,64,32,16]) (by simp) r
 simp at this;omega
theorem eng_h(L:List Int)(p:Nat)(n:Int)(l:List Adj)(hn:0≤n)(k:Nat):HandOk Tryd.prog 1 k eng_c (eng_m L p n l).st (eng_m L p n (l.take (minI l.length n).toNat)).st:=by
 unfold HandOk eng_c
 show AWP _ 1 k _ _ ⟨resT [(0,.ref 0 0),(4,.ref 1 0),(5,.ref 2 0)],hpL 0 [some (.box (Tap.v ⟨L,p⟩)),some (.box (.agg [.int 0,.sl 0 [] true])),some (.box (.agg [.int n,.vec 3])),some (.vec 4 (l.map Adj.v))],4⟩
 have hml:=maxLen_eq
 have hx:∀l:List Adj,belL 4 (l.map Adj.v)∧∀π,renL π (l.map Adj.v)=l.map Adj.v:=λl=>have h:=pureBL_ok (pureBL_map (v:=Adj.v) (λ_=>rfl) l);⟨belL_pure h,λπ=>renL_pure π h⟩
 have hy:∀l:List Int,∀π,renL π (l.map AV.int)=l.map AV.int:=λl=>have h:=pureBL_ok (pureBL_map (v:=AV.int) (λ_=>rfl) l);λπ=>renL_pure π h
 have hv:∀(π:Nat→Nat) (l:List Adj),some (Blk.vec 4 (l.map Adj.v))=some (Blk.ren π (.vec 4 (l.map Adj.v))):=λπ l=>by rw[Blk.ren,(hx l).2]
 have ht:∀π,(Blk.box (Tap.v ⟨L,p⟩)).ren π=Blk.box (Tap.v ⟨L,p⟩):=λπ=>rfl
 cases l with
 | nil =>
  have hm:minI 0 n=0:=by unfold minI;split<;>omega
  refine AWP.reg' λK hK=>?_
  try simp only[stepS,stepD,stepM,eq_self,implies_true,forall_eq_or_imp,forall_eq,Nat.reduceEqDiff,↓reduceIte,Nat.reduceAdd,Nat.reduceLeDiff,Nat.reduceSub,Nat.reduceMul,Nat.reduceLT,Int.reduceBEq,Int.reduceBNe,Int.reduceToNat,Int.reduceLT,Int.reduceLE,Int.reduceAdd,Int.reduceSub,Int.reduceMul,reduceCtorEq,foldA,foldI,hm,resliceA,sliceA]
  refine hK _ _ _ ?_
  clear hK K
  show Weak 1 k _ ⟨resT [(0,.ref 0 0),(4,.ref 1 0),(5,.ref 2 0)],hpL 0 [some (.box (Tap.v ⟨L,p⟩)),some (.box (.agg [.int 0,.sl 0 [] true])),some (.box (.agg [.int n,.vec 3])),some (.vec 4 ((List.take (minI (0:Nat) n).toNat ([]:List Adj)).map Adj.v))],4⟩
  rw[List.take_nil]
  refine Weak.nf [0,1,2,3] _ _ ?_ ?_ ⟨rfl,rfl⟩ (by decide) (by decide) (by decide)
  ·repeat' (first|exact trivial|exact And.intro rfl trivial|refine And.intro ?_ ?_|rfl|exact Nat.le_of_ble_eq_true rfl)
  ·repeat' (first|exact trivial|exact And.intro rfl trivial|refine And.intro ?_ ?_|rfl|exact Nat.le_of_ble_eq_true rfl)
 | cons a l =>
  have hl:0<(a::l).length:=by simp
  have hm:0≤minI (a::l).length n∧minI (a::l).length n≤(a::l).length:=by unfold minI;split<;>omega
  revert hl hm
  generalize a::l=es
  generalize hq:minI es.length n=m
  intro hl hm
  refine AWP.reg' λK hK=>?_
  try simp only[stepS,stepD,stepM,eq_self,implies_true,forall_eq_or_imp,forall_eq,Nat.reduceEqDiff,↓reduceIte,Nat.reduceAdd,Nat.reduceLeDiff,Nat.reduceSub,Nat.reduceMul,Nat.reduceLT,Int.reduceBEq,Int.reduceBNe,Int.reduceToNat,Int.reduceLT,Int.reduceLE,Int.reduceAdd,Int.reduceSub,Int.reduceMul,reduceCtorEq,foldA,foldI,resliceA,sliceA,hq,hl]
  refine⟨hm,?_⟩
  refine hK _ _ _ ?_
  clear hK K
  refine Weak.trans (Weak.cutB (kk:=4) (m:=m.toNat) (es:=es.map Adj.v) (cs:=[.int n,.vsub 3 0 m.toNat]) 3 2 1 rfl rfl rfl (by rw[List.length_map];omega) (by rw[List.length_map];exact hl) (by omega)) ?_
  show Weak 1 k _ ⟨resT [(0,.ref 0 0),(4,.ref 1 0),(5,.ref 2 0)],hpL 0 [some (.box (Tap.v ⟨L,p⟩)),some (.box (.agg [.int 0,.sl 0 [] true])),some (.box (.agg [.int n,.vec 3])),some (.vec 4 ((es.take m.toNat).map Adj.v))],4⟩
  rw[←List.map_take]
  refine Weak.nf [0,1,2,180] _ _ ?_ ?_ ⟨rfl,rfl⟩ (by decide) (by decide) (by decide)
  ·repeat' (first|exact trivial|exact And.intro rfl trivial|refine And.intro ?_ ?_|rfl|exact Nat.le_of_ble_eq_true rfl|exact(hx _).1|exact ht _|exact hv _ _)
  ·repeat' (first|exact trivial|exact And.intro rfl trivial|refine And.intro ?_ ?_|rfl|exact Nat.le_of_ble_eq_true rfl|exact(hx _).1|exact ht _|exact hv _ _)
abbrev EgS:=List Adj×Nat
def egD(L:List Int)(r:Rtr)(s:EgS):EgS:=(if 0<Mod (rawV L s.2) 5 then s.1++[⟨(s.1.length:Int),r.id,3,r.id⟩]else s.1,rawP L s.2)
def egTo(r:Rtr)(k:Lnk):Int:=if k.b=r.id then k.a else if k.a=r.id then k.b else 0
def egL(L:List Int)(r:Rtr)(s:EgS)(k:Lnk):EgS:=
 if egTo r k=0 then s else(if 0<Mod (rawV L s.2) 5 then s.1++[⟨(s.1.length:Int),r.id,1,egTo r k⟩]else s.1,rawP L s.2)
def egQ(L:List Int)(r:Rtr)(q:Int)(s:EgS):EgS:=
 if q=r.id then(s.1,rawP L s.2)else(if Mod (rawV L (rawP L s.2)) 3=0 then s.1++[⟨(s.1.length:Int),r.id,2,q⟩]else s.1,rawP L (rawP L s.2))
def egI(L:List Int)(t:Tpl)(p:Nat):Int:=(t.rs.getD (Mod (rawV L p) t.rs.length).toNat ⟨0,false⟩).id
def egS(L:List Int)(t:Tpl)(s:EgS)(r:Rtr):EgS:=
 let s2:=t.ls.foldl (egL L r) (egD L r s)
 egQ L r (egI L t s2.2) s2
def egN(L:List Int)(p:Nat):Int:=pickI [64,64,32,16] (rawV L p)
def egP(L:List Int)(p:Nat)(t:Tpl):Bool×Nat:=
 if(ful30 t 64).2=0 then(Mod (rawV L (rawP L p)) 2==0,rawP L (rawP L p))else(false,rawP L p)
def egW(L:List Int)(p:Nat)(t:Tpl):EgS:=t.rs.foldl (egS L t) ([],(egP L p t).2)
def egC(n:Int)(l:List Adj):List Adj:=l.take (minI l.length n).toNat
def egF(n:Int)(l:List Adj)(a:Adj):Adj:=⟨W (a.bit+W (n-l.length)),a.router,a.kind,a.to⟩
def egE(n:Int)(l:List Adj)(b:Bool):Eng:=⟨n,if b=true then l.map (egF n l)else l⟩
def egB(L:List Int)(n:Int)(l:List Adj)(p:Nat):Bool:=Mod (rawV L p) 3==0 && decide ((l.length:Int)<n)
def engT(L:List Int)(p:Nat)(t:Tpl):Eng×Nat:=
 if(egP L p t).1=true then((ful30 t 64).1,(egP L p t).2)
 else(egE (egN L p) (egC (egN L p) (egW L p t).1) (egB L (egN L p) (egC (egN L p) (egW L p t).1) (egW L p t).2),rawP L (egW L p t).2)
def engT_a(L:(List Int))(p:Nat)(a1:Tpl):Prop:=okL [.ref 0 0,.agg [.sl 2 (a1.rs.map Rtr.v) false,.sl 5 (a1.ls.map Lnk.v) false]]∧(.box (.agg [.sl 1 (L.map AV.int) false,.int ((p:Nat):Int)]):Blk).ok
def engT_n0(L:(List Int))(p:Nat)(a1:Tpl)(t0:Bool×Nat):NF:=⟨[(0,.k,.ref 0 0),(3,.k,.ref 1 0),(4,.k,.ref 2 0),(5,.k,.ref 3 0),(6,.k,.ref 4 0),(30,.k,.bool t0.1)],[.box (.agg [.sl 1 (L.map AV.int) false,.int ((t0.2:Nat):Int)]),.box (.agg [.sl 2 (a1.rs.map Rtr.v) false,.sl 5 (a1.ls.map Lnk.v) false]),.box (.agg [.int 0,.sl 0 [] true]),.box (.agg [.int (pickI [64,64,32,16] (rawV L p)),.sl 0 [] true]),.box ((Eng.v ((ful30 a1 64).1)))]⟩
def engT_n1(L:(List Int))(p:Nat)(a1:Tpl)(t1:Int×Nat×(List Adj)):NF:=⟨[(0,.k,.ref 0 0),(3,.k,.ref 1 0),(4,.k,.ref 2 0),(5,.k,.ref 3 0),(33,.k,.sl 2 (a1.rs.map Rtr.v) false),(34,.k,.int ((a1.rs.map Rtr.v).length:Int)),(35,.k,.int t1.1)],[.box (.agg [.sl 1 (L.map AV.int) false,.int ((t1.2.1:Nat):Int)]),.box (.agg [.sl 2 (a1.rs.map Rtr.v) false,.sl 5 (a1.ls.map Lnk.v) false]),.box (.agg [.int 0,.sl 0 [] true]),.box (.agg [.int (pickI [64,64,32,16] (rawV L p)),.vec 4]),.vec 4 (t1.2.2.map Adj.v) (pureBL_map (λ_=>rfl) t1.2.2)]⟩
def engT_n2(L:(List Int))(p:Nat)(a1:Tpl)(t1:Int×Nat×(List Adj))(x2:Rtr)(t2:(List Adj)):NF:=⟨[(0,.k,.ref 0 0),(3,.k,.ref 1 0),(4,.k,.ref 2 0),(5,.k,.ref 3 0),(9,.k,.ref 5 0),(33,.k,.sl 2 (a1.rs.map Rtr.v) false),(34,.k,.int ((a1.rs.map Rtr.v).length:Int)),(35,.k,.int t1.1)],[.box (.agg [.sl 1 (L.map AV.int) false,.int (((rawP L t1.2.1):Nat):Int)]),.box (.agg [.sl 2 (a1.rs.map Rtr.v) false,.sl 5 (a1.ls.map Lnk.v) false]),.box (.agg [.int 0,.sl 0 [] true]),.box (.agg [.int (pickI [64,64,32,16] (rawV L p)),.vec 4]),.vec 4 (t2.map Adj.v) (pureBL_map (λ_=>rfl) t2),.box (.agg [.int x2.id,.bool x2.cap])]⟩
def engT_n3(L:(List Int))(p:Nat)(a1:Tpl)(t1:Int×Nat×(List Adj))(x2:Rtr)(t3:Int×(List Adj)×Nat):NF:=⟨[(0,.k,.ref 0 0),(3,.k,.ref 1 0),(4,.k,.ref 2 0),(5,.k,.ref 3 0),(9,.k,.ref 5 0),(33,.k,.sl 2 (a1.rs.map Rtr.v) false),(34,.k,.int ((a1.rs.map Rtr.v).length:Int)),(35,.k,.int t1.1),(56,.k,.sl 5 (a1.ls.map Lnk.v) false),(57,.k,.int ((a1.ls.map Lnk.v).length:Int)),(58,.k,.int t3.1)],[.box (.agg [.sl 1 (L.map AV.int) false,.int ((t3.2.2:Nat):Int)]),.box (.agg [.sl 2 (a1.rs.map Rtr.v) false,.sl 5 (a1.ls.map Lnk.v) false]),.box (.agg [.int 0,.sl 0 [] true]),.box (.agg [.int (pickI [64,64,32,16] (rawV L p)),.vec 4]),.vec 4 (t3.2.1.map Adj.v) (pureBL_map (λ_=>rfl) t3.2.1),.box (.agg [.int x2.id,.bool x2.cap])]⟩
def engT_n4(L:(List Int))(p:Nat)(a1:Tpl)(t1:Int×Nat×(List Adj))(x2:Rtr)(t3:Int×(List Adj)×Nat)(x3:Lnk)(t4:Int):NF:=⟨[(0,.k,.ref 0 0),(3,.k,.ref 1 0),(4,.k,.ref 2 0),(5,.k,.ref 3 0),(9,.k,.ref 5 0),(11,.k,.ref 6 0),(12,.k,.int t4),(33,.k,.sl 2 (a1.rs.map Rtr.v) false),(34,.k,.int ((a1.rs.map Rtr.v).length:Int)),(35,.k,.int t1.1),(56,.k,.sl 5 (a1.ls.map Lnk.v) false),(57,.k,.int ((a1.ls.map Lnk.v).length:Int)),(58,.k,.int t3.1)],[.box (.agg [.sl 1 (L.map AV.int) false,.int ((t3.2.2:Nat):Int)]),.box (.agg [.sl 2 (a1.rs.map Rtr.v) false,.sl 5 (a1.ls.map Lnk.v) false]),.box (.agg [.int 0,.sl 0 [] true]),.box (.agg [.int (pickI [64,64,32,16] (rawV L p)),.vec 4]),.vec 4 (t3.2.1.map Adj.v) (pureBL_map (λ_=>rfl) t3.2.1),.box (.agg [.int x2.id,.bool x2.cap]),.box (.agg [.int x3.a,.int x3.b,.int x3.ca,.int x3.cb,.int x3.w])]⟩
def engT_n5(L:(List Int))(p:Nat)(a1:Tpl)(t1:Int×Nat×(List Adj))(x2:Rtr)(t3:Int×(List Adj)×Nat)(t5:Int):NF:=⟨[(0,.k,.ref 0 0),(3,.k,.ref 1 0),(4,.k,.ref 2 0),(5,.k,.ref 3 0),(9,.k,.ref 5 0),(12,.k,.int t5),(33,.k,.sl 2 (a1.rs.map Rtr.v) false),(34,.k,.int ((a1.rs.map Rtr.v).length:Int)),(35,.k,.int t1.1),(56,.k,.sl 5 (a1.ls.map Lnk.v) false),(57,.k,.int ((a1.ls.map Lnk.v).length:Int)),(58,.k,.int t3.1)],[.box (.agg [.sl 1 (L.map AV.int) false,.int ((t3.2.2:Nat):Int)]),.box (.agg [.sl 2 (a1.rs.map Rtr.v) false,.sl 5 (a1.ls.map Lnk.v) false]),.box (.agg [.int 0,.sl 0 [] true]),.box (.agg [.int (pickI [64,64,32,16] (rawV L p)),.vec 4]),.vec 4 (t3.2.1.map Adj.v) (pureBL_map (λ_=>rfl) t3.2.1),.box (.agg [.int x2.id,.bool x2.cap])]⟩
def engT_n6(L:(List Int))(p:Nat)(a1:Tpl)(t1:Int×Nat×(List Adj))(x2:Rtr)(t3:Int×(List Adj)×Nat)(t5:Int)(t6:Bool×Nat):NF:=⟨[(0,.k,.ref 0 0),(3,.k,.ref 1 0),(4,.k,.ref 2 0),(5,.k,.ref 3 0),(9,.k,.ref 5 0),(12,.k,.int t5),(33,.k,.sl 2 (a1.rs.map Rtr.v) false),(34,.k,.int ((a1.rs.map Rtr.v).length:Int)),(35,.k,.int t1.1),(56,.k,.sl 5 (a1.ls.map Lnk.v) false),(57,.k,.int ((a1.ls.map Lnk.v).length:Int)),(58,.k,.int t3.1),(82,.k,.bool t6.1)],[.box (.agg [.sl 1 (L.map AV.int) false,.int ((t6.2:Nat):Int)]),.box (.agg [.sl 2 (a1.rs.map Rtr.v) false,.sl 5 (a1.ls.map Lnk.v) false]),.box (.agg [.int 0,.sl 0 [] true]),.box (.agg [.int (pickI [64,64,32,16] (rawV L p)),.vec 4]),.vec 4 (t3.2.1.map Adj.v) (pureBL_map (λ_=>rfl) t3.2.1),.box (.agg [.int x2.id,.bool x2.cap])]⟩
def engT_n7(L:(List Int))(p:Nat)(a1:Tpl)(t1:Int×Nat×(List Adj))(x2:Rtr)(t3:Int×(List Adj)×Nat)(x4:Rtr)(t7:Bool×Nat):NF:=⟨[(0,.k,.ref 0 0),(3,.k,.ref 1 0),(4,.k,.ref 2 0),(5,.k,.ref 3 0),(9,.k,.ref 5 0),(13,.k,.int x4.id),(33,.k,.sl 2 (a1.rs.map Rtr.v) false),(34,.k,.int ((a1.rs.map Rtr.v).length:Int)),(35,.k,.int t1.1),(114,.k,.bool t7.1)],[.box (.agg [.sl 1 (L.map AV.int) false,.int ((t7.2:Nat):Int)]),.box (.agg [.sl 2 (a1.rs.map Rtr.v) false,.sl 5 (a1.ls.map Lnk.v) false]),.box (.agg [.int 0,.sl 0 [] true]),.box (.agg [.int (pickI [64,64,32,16] (rawV L p)),.vec 4]),.vec 4 (t3.2.1.map Adj.v) (pureBL_map (λ_=>rfl) t3.2.1),.box (.agg [.int x2.id,.bool x2.cap])]⟩
def engT_n8(L:(List Int))(p:Nat)(t1:Int×Nat×(List Adj))(t8:Bool):NF:=⟨[(4,.k,.ref 1 0),(5,.k,.ref 2 0),(148,.k,.bool t8)],[.box (.agg [.sl 1 (L.map AV.int) false,.int (((rawP L t1.2.1):Nat):Int)]),.box (.agg [.int 0,.sl 0 [] true]),.box (.agg [.int (pickI [64,64,32,16] (rawV L p)),.vec 3]),.vec 4 ((t1.2.2.take (minI t1.2.2.length (pickI [64,64,32,16] (rawV L p))).toNat).map Adj.v) (pureBL_map (λ_=>rfl) (t1.2.2.take (minI t1.2.2.length (pickI [64,64,32,16] (rawV L p))).toNat))]⟩
def engT_n9(L:(List Int))(p:Nat)(t1:Int×Nat×(List Adj))(t9:Int×(List Adj)):NF:=⟨[(4,.k,.ref 1 0),(5,.k,.ref 2 0),(151,.k,.int (((t1.2.2.take (minI t1.2.2.length (pickI [64,64,32,16] (rawV L p))).toNat).map Adj.v).length:Int)),(152,.k,.int t9.1)],[.box (.agg [.sl 1 (L.map AV.int) false,.int (((rawP L t1.2.1):Nat):Int)]),.box (.agg [.int 0,.sl 0 [] true]),.box (.agg [.int (pickI [64,64,32,16] (rawV L p)),.vec 3]),.vec 4 (t9.2.map Adj.v) (pureBL_map (λ_=>rfl) t9.2)]⟩
@[reducible] def engT_s:Nat→Type
 | 0=>Bool×Nat
 | 1=>Int×Nat×(List Adj)
 | 2=>(List Adj)
 | 3=>Int×(List Adj)×Nat
 | 4=>Int
 | 5=>Int
 | 6=>Bool×Nat
 | 7=>Bool×Nat
 | 8=>Bool
 | 9=>Int×(List Adj)
 | _=>Unit
def engT_e(r:Tap×Eng):AV:=.agg [.int r.2.len,.sl 4 (r.2.list.map Adj.v) false]
def engT_b(r:Tap×Eng):List (Option Blk):=[some (.box (.agg [.sl 1 (r.1.L.map AV.int) false,.int ((r.1.p:Nat):Int)]))]
def engT_x(L:(List Int))(p:Nat)(a1:Tpl)(I0:(Bool×Nat)→Prop)(I1:Bool×Nat→(Int×Nat×(List Adj))→Prop)(m1:Bool×Nat→(Int×Nat×(List Adj))→Nat)(I2:Bool×Nat→Int×Nat×(List Adj)→Rtr→(List Adj)→Prop)(I3:Bool×Nat→Int×Nat×(List Adj)→Rtr→(List Adj)→(Int×(List Adj)×Nat)→Prop)(m3:Bool×Nat→Int×Nat×(List Adj)→Rtr→(List Adj)→(Int×(List Adj)×Nat)→Nat)(I4:Bool×Nat→Int×Nat×(List Adj)→Rtr→(List Adj)→Int×(List Adj)×Nat→Lnk→Int→Prop)(I5:Bool×Nat→Int×Nat×(List Adj)→Rtr→(List Adj)→Int×(List Adj)×Nat→Lnk→Int→Int→Prop)(I6:Bool×Nat→Int×Nat×(List Adj)→Rtr→(List Adj)→Int×(List Adj)×Nat→Lnk→Int→Int→(Bool×Nat)→Prop)(I7:Bool×Nat→Int×Nat×(List Adj)→Rtr→(List Adj)→Int×(List Adj)×Nat→Rtr→(Bool×Nat)→Prop)(I8:Bool×Nat→Int×Nat×(List Adj)→Bool→Prop)(I9:Bool×Nat→Int×Nat×(List Adj)→Bool→(Int×(List Adj))→Prop)(m9:Bool×Nat→Int×Nat×(List Adj)→Bool→(Int×(List Adj))→Nat):Ax Tryd.prog engT_s (Tap×Eng):=
 (.req 65 ([64,64,32,16]≠[]) λh1 =>
(.callH [0] (Pick_h L p [64,64,32,16] h1) 65
(.callP (ful30_c a1 64)
(.join 0 (engT_n0 L p a1) (λ(t0:Bool×Nat)=>I0 t0) (λb0=>(.br 305 (((ful30 a1 64).2)==0) (.callH [0] (N_h L (rawP L p) 2) 321
(.bk 0 b0 ((Mod (rawV L (rawP L p)) 2)==0,rawP L (rawP L p)) [0,1,17,97,209]))
(.bk 0 b0 (false,rawP L p) [0,1,17,97,209]))) λ(t0:Bool×Nat) =>
(.br 5 t0.1 (.retH ((⟨L,t0.2⟩:Tap),(ful30 a1 64).1) ⟨[(4,.k,.ref 1 0)],[.box (.agg [.sl 1 (L.map AV.int) false,.int ((t0.2:Nat):Int)]),.box ((Eng.v ((ful30 a1 64).1)))]⟩ [0,2])
(.cmdL (.nilB 3 1 4) (.loop 1 (engT_n1 L p a1) (I1 t0) (m1 t0) (0,t0.2,[]) [0,1,2,3,69] λ(t1:Int×Nat×(List Adj)) b1 =>
(.br 21 (decide (t1.1<((a1.rs.map Rtr.v).length:Int))) (.el 21 Rtr.v a1.rs (λR=>Rf (a1.rs.map Rtr.v) (ck (decide (0≤t1.1)) (ck (decide (t1.1<(a1.rs.length:Int)))
(∀x2,a1.rs[t1.1.toNat]?=some x2 →
(R x2))))) λx2 =>
(.join 2 (engT_n2 L p a1 t1 x2) (λ(t2:(List Adj))=>I2 t0 t1 x2 t2) (λb2=>(.callH [0] (N_h L t1.2.1 5) 101
(.br 133 (decide (0<(Mod (rawV L t1.2.1) 5))) (.say (λR=>Rf (α:=List AV) (t1.2.2.map Adj.v) (Rf (α:=List AV) [.agg [.int ((t1.2.2.map Adj.v).length:Int),.int x2.id,.int 3,.int x2.id]]
(ck (decide (t1.2.2.length+1≤1048576))
R))) (.app 309 Adj.v t1.2.2 [(⟨((t1.2.2.map Adj.v).length:Int),x2.id,3,x2.id⟩:Adj)]
(.bk 2 b2 ((t1.2.2++[(⟨((t1.2.2.map Adj.v).length:Int),x2.id,3,x2.id⟩:Adj)]):(List Adj)) [0,1,2,3,309,53])))
(.bk 2 b2 ((t1.2.2):(List Adj)) [0,1,2,3,4,53])))) λ(t2:(List Adj)) =>
(.loop 3 (engT_n3 L p a1 t1 x2) (I3 t0 t1 x2 t2) (m3 t0 t1 x2 t2) (0,t2,rawP L t1.2.1) [0,1,2,3,4,5] λ(t3:Int×(List Adj)×Nat) b3 =>
(.br 22 (decide (t3.1<((a1.ls.map Lnk.v).length:Int))) (.el 22 Lnk.v a1.ls (λR=>Rf (a1.ls.map Lnk.v) (ck (decide (0≤t3.1)) (ck (decide (t3.1<(a1.ls.length:Int)))
(∀x3,a1.ls[t3.1.toNat]?=some x3 →
(R x3))))) λx3 =>
(.pass (.join 4 (engT_n4 L p a1 t1 x2 t3 x3) (λ(t4:Int)=>I4 t0 t1 x2 t2 t3 x3 t4) (λb4=>(.br 182 (x3.a==x2.id) (.bk 4 b4 ((x3.b):Int) [0,1,2,3,4,5,54])
(.bk 4 b4 ((0):Int) [0,1,2,3,4,5,54]))) λ(t4:Int) =>
(.join 5 (engT_n5 L p a1 t1 x2 t3) (λ(t5:Int)=>I5 t0 t1 x2 t2 t3 x3 t4 t5) (λb5=>(.br 87 (x3.b==x2.id) (.bk 5 b5 ((x3.a):Int) [0,1,2,3,4,5])
(.bk 5 b5 ((t4):Int) [0,1,2,3,4,5]))) λ(t5:Int) =>
(.join 6 (engT_n6 L p a1 t1 x2 t3 t5) (λ(t6:Bool×Nat)=>I6 t0 t1 x2 t2 t3 x3 t4 t5 t6) (λb6=>(.br 54 (t5 != 0) (.callH [0] (N_h L t3.2.2 5) 70
(.bk 6 b6 (decide (0<(Mod (rawV L t3.2.2) 5)),rawP L t3.2.2) [0,1,2,3,4,5]))
(.bk 6 b6 (false,t3.2.2) [0,1,2,3,4,5]))) λ(t6:Bool×Nat) =>
(.br 6 t6.1 (.say (λR=>Rf (α:=List AV) (t3.2.1.map Adj.v) (Rf (α:=List AV) [.agg [.int ((t3.2.1.map Adj.v).length:Int),.int x2.id,.int 1,.int t5]]
(ck (decide (t3.2.1.length+1≤1048576))
R))) (.app 166 Adj.v t3.2.1 [(⟨((t3.2.1.map Adj.v).length:Int),x2.id,1,t5⟩:Adj)]
(.bk 3 b3 (W (t3.1+1),t3.2.1++[(⟨((t3.2.1.map Adj.v).length:Int),x2.id,1,t5⟩:Adj)],t6.2) [0,1,2,3,166,5])))
(.bk 3 b3 (W (t3.1+1),t3.2.1,t6.2) [0,1,2,3,4,5])))))))
(.callH [0] (N_h L t3.2.2 ((a1.rs.map Rtr.v).length:Int)) 118
(.el 134 Rtr.v a1.rs (λR=>Rf (a1.rs.map Rtr.v) (ck (decide (0≤(Mod (rawV L t3.2.2) ((a1.rs.map Rtr.v).length:Int)))) (ck (decide ((Mod (rawV L t3.2.2) ((a1.rs.map Rtr.v).length:Int))<(a1.rs.length:Int)))
(∀x4,a1.rs[(Mod (rawV L t3.2.2) ((a1.rs.map Rtr.v).length:Int)).toNat]?=some x4 →
(R x4))))) λx4 =>
(.join 7 (engT_n7 L p a1 t1 x2 t3 x4) (λ(t7:Bool×Nat)=>I7 t0 t1 x2 t2 t3 x4 t7) (λb7=>(.br 278 (x4.id != x2.id) (.callH [0] (N_h L (rawP L t3.2.2) 3) 294
(.bk 7 b7 ((Mod (rawV L (rawP L t3.2.2)) 3)==0,rawP L (rawP L t3.2.2)) [0,1,2,3,4,5]))
(.bk 7 b7 (false,rawP L t3.2.2) [0,1,2,3,4,5]))) λ(t7:Bool×Nat) =>
(.br 6 t7.1 (.say (λR=>Rf (α:=List AV) (t3.2.1.map Adj.v) (Rf (α:=List AV) [.agg [.int ((t3.2.1.map Adj.v).length:Int),.int x2.id,.int 2,.int x4.id]]
(ck (decide (t3.2.1.length+1≤1048576))
R))) (.app 166 Adj.v t3.2.1 [(⟨((t3.2.1.map Adj.v).length:Int),x2.id,2,x4.id⟩:Adj)]
(.bk 1 b1 (W (t1.1+1),t7.2,t3.2.1++[(⟨((t3.2.1.map Adj.v).length:Int),x2.id,2,x4.id⟩:Adj)]) [0,1,2,3,166])))
(.bk 1 b1 (W (t1.1+1),t7.2,t3.2.1) [0,1,2,3,4])))))))))
(.hand 1 [] (eng_m L t1.2.1 (pickI [64,64,32,16] (rawV L p)) t1.2.2) [0,2,3,4] ((eng_m L t1.2.1 (pickI [64,64,32,16] (rawV L p)) (t1.2.2.take (minI t1.2.2.length (pickI [64,64,32,16] (rawV L p))).toNat)).st) eng_c (eng_h L t1.2.1 (pickI [64,64,32,16] (rawV L p)) t1.2.2 (eng_n _))
(.pass (.join 8 (engT_n8 L p t1) (λ(t8:Bool)=>I8 t0 t1 t8) (λb8=>(.callH [0] (N_h L t1.2.1 3) 20
(.br 68 ((Mod (rawV L t1.2.1) 3)==0) (.bk 8 b8 ((decide ((((t1.2.2.take (minI t1.2.2.length (pickI [64,64,32,16] (rawV L p))).toNat).map Adj.v).length:Int)<(pickI [64,64,32,16] (rawV L p)))):Bool) [0,1,2,3])
(.bk 8 b8 ((false):Bool) [0,1,2,3])))) λ(t8:Bool) =>
(.br 4 t8 (.loop 9 (engT_n9 L p t1) (I9 t0 t1 t8) (m9 t0 t1 t8) (0,t1.2.2.take (minI t1.2.2.length (pickI [64,64,32,16] (rawV L p))).toNat) [0,1,2,3] λ(t9:Int×(List Adj)) b9 =>
(.br 20 (decide (t9.1<(((t1.2.2.take (minI t1.2.2.length (pickI [64,64,32,16] (rawV L p))).toNat).map Adj.v).length:Int))) (.say (ck (cond (decide (0≤t9.1)) (decide (t9.1<((t9.2.map Adj.v).length:Int))) false)) (.el 132 Adj.v t9.2 (λR=>Rf (t9.2.map Adj.v) (ck (decide (t9.1.toNat<t9.2.length))
(∀x5,t9.2[t9.1.toNat]?=some x5 →
(R x5)))) λx5 =>
(.say (ck (cond (decide (0≤t9.1)) (decide (t9.1<((t9.2.map Adj.v).length:Int))) false)) (.st 292 Adj.v t9.2 (λy6=>(⟨W (x5.bit+(W ((pickI [64,64,32,16] (rawV L p))-((t9.2.map Adj.v).length:Int)))),y6.router,y6.kind,y6.to⟩:Adj)) (λR=>Rf (t9.2.map Adj.v) (ck (decide (t9.1.toNat<t9.2.length))
(∀y6,t9.2[t9.1.toNat]?=some y6→Rf (Adj.v (⟨W (x5.bit+(W ((pickI [64,64,32,16] (rawV L p))-((t9.2.map Adj.v).length:Int)))),y6.router,y6.kind,y6.to⟩:Adj))
((R y6))))) λy6 =>
(.bk 9 b9 (W (t9.1+1),t9.2.set t9.1.toNat (⟨W (x5.bit+(W ((pickI [64,64,32,16] (rawV L p))-((t9.2.map Adj.v).length:Int)))),y6.router,y6.kind,y6.to⟩:Adj)) [0,1,2,3])))))
(.say (Rf (t9.2.map Adj.v)) (.cmdL (.frzE 3 (t9.2.map Adj.v) (pureBL_map (λ_=>rfl) t9.2)) (.retH ((⟨L,rawP L t1.2.1⟩:Tap),(⟨pickI [64,64,32,16] (rawV L p),t9.2⟩:Eng)) ⟨[(4,.k,.ref 1 0)],[.box (.agg [.sl 1 (L.map AV.int) false,.int (((rawP L t1.2.1):Nat):Int)]),.box (.agg [.int (pickI [64,64,32,16] (rawV L p)),.sl 4 (t9.2.map Adj.v) false])]⟩ [0,1])))))
(.say (Rf ((t1.2.2.take (minI t1.2.2.length (pickI [64,64,32,16] (rawV L p))).toNat).map Adj.v)) (.cmdL (.frzE 3 ((t1.2.2.take (minI t1.2.2.length (pickI [64,64,32,16] (rawV L p))).toNat).map Adj.v) (pureBL_map (λ_=>rfl) (t1.2.2.take (minI t1.2.2.length (pickI [64,64,32,16] (rawV L p))).toNat))) (.retH ((⟨L,rawP L t1.2.1⟩:Tap),(⟨pickI [64,64,32,16] (rawV L p),t1.2.2.take (minI t1.2.2.length (pickI [64,64,32,16] (rawV L p))).toNat⟩:Eng)) ⟨[(4,.k,.ref 1 0)],[.box (.agg [.sl 1 (L.map AV.int) false,.int (((rawP L t1.2.1):Nat):Int)]),.box (.agg [.int (pickI [64,64,32,16] (rawV L p)),.sl 4 ((t1.2.2.take (minI t1.2.2.length (pickI [64,64,32,16] (rawV L p))).toNat).map Adj.v) false])]⟩ [0,1])))))))))))))))
def engT_vc(L:(List Int))(p:Nat)(a1:Tpl)(I0:(Bool×Nat)→Prop)(I1:Bool×Nat→(Int×Nat×(List Adj))→Prop)(m1:Bool×Nat→(Int×Nat×(List Adj))→Nat)(I2:Bool×Nat→Int×Nat×(List Adj)→Rtr→(List Adj)→Prop)(I3:Bool×Nat→Int×Nat×(List Adj)→Rtr→(List Adj)→(Int×(List Adj)×Nat)→Prop)(m3:Bool×Nat→Int×Nat×(List Adj)→Rtr→(List Adj)→(Int×(List Adj)×Nat)→Nat)(I4:Bool×Nat→Int×Nat×(List Adj)→Rtr→(List Adj)→Int×(List Adj)×Nat→Lnk→Int→Prop)(I5:Bool×Nat→Int×Nat×(List Adj)→Rtr→(List Adj)→Int×(List Adj)×Nat→Lnk→Int→Int→Prop)(I6:Bool×Nat→Int×Nat×(List Adj)→Rtr→(List Adj)→Int×(List Adj)×Nat→Lnk→Int→Int→(Bool×Nat)→Prop)(I7:Bool×Nat→Int×Nat×(List Adj)→Rtr→(List Adj)→Int×(List Adj)×Nat→Rtr→(Bool×Nat)→Prop)(I8:Bool×Nat→Int×Nat×(List Adj)→Bool→Prop)(I9:Bool×Nat→Int×Nat×(List Adj)→Bool→(Int×(List Adj))→Prop)(m9:Bool×Nat→Int×Nat×(List Adj)→Bool→(Int×(List Adj))→Nat)(r0:Tap×Eng):Prop:=(engT_x L p a1 I0 I1 m1 I2 I3 m3 I4 I5 I6 I7 I8 I9 m9).vc engT_e engT_b r0
theorem egD_len(L:List Int)(r:Rtr)(s:EgS):(egD L r s).1.length≤s.1.length+1:=by
 unfold egD;split<;>simp
theorem egL_len(L:List Int)(r:Rtr)(s:EgS)(k:Lnk):(egL L r s k).1.length≤s.1.length+1:=by
 unfold egL;split
 ·omega
 ·split<;>simp
theorem egQ_len(L:List Int)(r:Rtr)(q:Int)(s:EgS):(egQ L r q s).1.length≤s.1.length+1:=by
 unfold egQ;split
 ·simp
 ·split<;>simp
theorem foldl_len{α:Type}{g:EgS→α→EgS}{b:Nat}(h:∀s x,(g s x).1.length≤s.1.length+b):∀(l:List α) (s:EgS),(l.foldl g s).1.length≤s.1.length+b * l.length
 | [],s=>by simp
 | x::l,s=>by
  rw[List.foldl_cons,List.length_cons,Nat.mul_succ]
  have:=foldl_len h l (g s x);have:=h s x;omega
theorem egS_len(L:List Int)(t:Tpl)(s:EgS)(r:Rtr):(egS L t s r).1.length≤s.1.length+(2+t.ls.length):=by
 unfold egS
 have h1:=egQ_len L r (egI L t (t.ls.foldl (egL L r) (egD L r s)).2) (t.ls.foldl (egL L r) (egD L r s))
 have h2:=foldl_len (g:=egL L r) (b:=1) (egL_len L r) t.ls (egD L r s)
 have h3:=egD_len L r s
 simp only;omega
theorem engT_p(L:List Int)(p:Nat)(a1:Tpl)(h:a1.rs.length≤100∧a1.ls.length≤1000)(ok:engT_a L p a1):∃I0 I1 m1 I2 I3 m3 I4 I5 I6 I7 I8 I9 m9,engT_vc L p a1 I0 I1 m1 I2 I3 m3 I4 I5 I6 I7 I8 I9 m9 ((⟨L,(engT L p a1).2⟩:Tap),(engT L p a1).1):=by
  refine⟨λt=>t=egP L p a1,λt0 t=>t0.1=false∧ForG a1.rs (egS L a1) ([],t0.2) t.1 (t.2.2,t.2.1),λ_ t=>a1.rs.length-t.1.toNat,
   λt0 t1 x t=>(t,rawP L t1.2.1)=egD L x (t1.2.2,t1.2.1),
   λt0 t1 x t2 t=>ForG a1.ls (egL L x) (t2,rawP L t1.2.1) t.1 (t.2.1,t.2.2),λ_ _ _ _ t=>a1.ls.length-t.1.toNat,
   λt0 t1 x t2 t3 k t=>t=if k.a=x.id then k.b else 0,
   λt0 t1 x t2 t3 k t4 t=>t=if k.b=x.id then k.a else t4,
   λt0 t1 x t2 t3 k t4 t5 t=>t=if t5=0 then(false,t3.2.2)else(decide (0<Mod (rawV L t3.2.2) 5),rawP L t3.2.2),
   λt0 t1 x t2 t3 q t=>t=if q.id=x.id then(false,rawP L t3.2.2)else(Mod (rawV L (rawP L t3.2.2)) 3==0,rawP L (rawP L t3.2.2)),
   λt0 t1 t=>t=egB L (egN L p) (egC (egN L p) t1.2.2) t1.2.1,
   λt0 t1 t8 t=>∃k:Nat,t.1=k∧k≤(egC (egN L p) t1.2.2).length∧t.2=((egC (egN L p) t1.2.2).take k).map (egF (egN L p) (egC (egN L p) t1.2.2))++(egC (egN L p) t1.2.2).drop k,
   λt0 t1 t8 t=>(egC (egN L p) t1.2.2).length-t.1.toNat,?_⟩
  obtain⟨hr,hl⟩:=h
  dsimp only[engT_vc,engT_x,engT_s,Ax.vp,Ax.vc];simp only[vcU,rfU,List.length_map]
  refine⟨by simp,⟨λc=>by rw[egP,if_pos (eq_of_beq c)],λc=>by rw[egP,if_neg (by simpa using c)]⟩,?_⟩
  rintro⟨b0,q0⟩ e0
  simp only
  refine⟨λc=>by rw[engT,←e0,if_pos c],λc=>⟨⟨c,ForG.zero⟩,?_⟩⟩
  subst c
  rintro⟨i1,q1,l1⟩ ⟨-,h1⟩
  simp only at h1 ⊢
  have b1:=h1.len (f:=λs:EgS=>s.1.length) (a:=0) (b:=2+a1.ls.length) (by simp) (λs x _=>egS_len L a1 s x)
  simp only at b1
  refine⟨λc1=>⟨h1.idx,c1,λx hx=>?_⟩,λc1=>?_⟩
  · have hi:i1.toNat<100:=by have:=lt_of_get hx;omega
    have b1:l1.length≤110000:=by
      have:(2+a1.ls.length) * i1.toNat≤1002 * 99:=Nat.mul_le_mul (by omega) (by omega)
      omega
    refine⟨⟨λc2=>⟨by omega,?_⟩,λc2=>?_⟩,?_⟩
    · rw[egD,if_pos c2]
    · rw[egD,if_neg (by omega)]
    intro (l2:List Adj) h2
    refine⟨ForG.zero,?_⟩
    rintro⟨i3,l3,q3⟩ h3
    simp only at h3 ⊢
    have b2:=egD_len L x (l1,q1)
    rw[←h2]at b2
    simp only at b2
    have b3:=h3.len (f:=λs:EgS=>s.1.length) (a:=l2.length) (b:=1) (Nat.le_refl _) (λs k _=>egL_len L x s k)
    simp only at b3
    refine⟨λc3=>⟨h3.idx,c3,λk hk=>⟨⟨λe=>?_,λe=>?_⟩,?_⟩⟩,λc3=>?_⟩
    · rw[if_pos (eq_of_beq e)]
    · rw[if_neg (by simpa using e)]
    · intro (t4:Int) e4
      refine⟨⟨λe=>by rw[if_pos (eq_of_beq e)],λe=>by rw[if_neg (by simpa using e)]⟩,?_⟩
      intro (t5:Int) e5
      have e5:t5=egTo x k:=by rw[e5,e4];rfl
      have b4:l3.length≤111001:=by have:=lt_of_get hk;omega
      clear e4
      refine⟨⟨λe=>by rw[if_neg (by simpa using e)],λe=>by rw[if_pos (by simpa using e)]⟩,?_⟩
      rintro⟨t6,q6⟩ e6
      simp only
      refine⟨λe=>⟨by omega,?_⟩,λe=>?_⟩
      · refine h3.step (by omega) hk ?_
        by_cases e0:t5=0
        · rw[if_pos e0]at e6;cases e6;cases e
        · rw[if_neg e0]at e6
          simp only[Prod.mk.injEq]at e6
          rw[egL,if_neg (by rw[←e5];exact e0),if_pos (by rw[e]at e6;simpa using e6.1.symm),e6.2,←e5]
      · refine h3.step (by omega) hk ?_
        by_cases e0:t5=0
        · rw[if_pos e0]at e6;cases e6
          rw[egL,if_pos (by rw[←e5];exact e0)]
        · rw[if_neg e0]at e6
          simp only[Prod.mk.injEq]at e6
          rw[egL,if_neg (by rw[←e5];exact e0),if_neg (by rw[e]at e6;simpa using e6.1.symm),e6.2]
    · have h3:=h3.done c3
      have b4:l3.length≤111001:=by
        have:=foldl_len (g:=egL L x) (b:=1) (egL_len L x) a1.ls (l2,rawP L q1)
        rw[←h3]at this;simp only at this;omega
      have hm:=Mod_range (x:=rawV L q3) (n:=(a1.rs.length:Int)) (by have:=lt_of_get hx;omega)
      refine⟨hm.1,hm.2,λq hq=>⟨⟨λe=>by rw[if_neg (by simpa using e)],λe=>by rw[if_pos (by simpa using e)]⟩,?_⟩⟩
      have hqi:q.id=egI L a1 q3:=by rw[egI,List.getD_eq_getElem?_getD,hq];rfl
      have hS:egS L a1 (l1,q1) x=egQ L x q.id (l3,q3):=by rw[egS,←h2,←h3,hqi]
      rintro⟨t7,q7⟩ e7
      simp only
      have hst:∀l,(l,q7)=egQ L x q.id (l3,q3)→(True∧ForG a1.rs (egS L a1) ([],q0) (W (i1+1)) (l,q7))∧a1.rs.length-(W (i1+1)).toNat<a1.rs.length-i1.toNat:=λl e=>by
        have:=h1.step (by omega) hx (s':=(l,q7)) (by rw[hS];exact e)
        exact⟨⟨trivial,this.1⟩,this.2⟩
      refine⟨λe=>⟨by omega,hst _ ?_⟩,λe=>hst _ ?_⟩
      · by_cases e0:q.id=x.id
        · rw[if_pos e0]at e7;cases e7;cases e
        · rw[if_neg e0]at e7
          simp only[Prod.mk.injEq]at e7
          rw[egQ,if_neg e0,if_pos (by rw[e]at e7;exact eq_of_beq e7.1.symm),e7.2]
      · by_cases e0:q.id=x.id
        · rw[if_pos e0]at e7;cases e7
          rw[egQ,if_pos e0]
        · rw[if_neg e0]at e7
          simp only[Prod.mk.injEq]at e7
          rw[egQ,if_neg e0,if_neg (by rw[e]at e7;simpa using e7.1.symm),e7.2]
  · have h1:=h1.done c1
    have hT:engT L p a1=(egE (egN L p) (egC (egN L p) l1) (egB L (egN L p) (egC (egN L p) l1) q1),rawP L q1):=by
      have hW:egW L p a1=(l1,q1):=by rw[egW,←e0,h1]
      rw[engT,←e0,if_neg (by simp),hW]
    have hC:List.take (minI (l1.length:Int) (pickI [64,64,32,16] (rawV L p))).toNat l1=egC (egN L p) l1:=rfl
    have hN:pickI [64,64,32,16] (rawV L p)=egN L p:=rfl
    have hlen:(egC (egN L p) l1).length≤110000:=by
      have:=foldl_len (g:=egS L a1) (b:=2+a1.ls.length) (egS_len L a1) a1.rs ([],q0)
      rw[←h1]at this
      have h9:(2+a1.ls.length) * a1.rs.length≤1002 * 100:=Nat.mul_le_mul (by omega) (by omega)
      have:(egC (egN L p) l1).length≤l1.length:=by unfold egC;rw[List.length_take];omega
      simp at *;omega
    rw[hT,hC,hN]
    clear hT hC hN
    generalize egC (egN L p) l1=C at *
    generalize egN L p=n at *
    refine⟨⟨λc=>?_,λc=>?_⟩,?_⟩
    · rw[egB,c];rfl
    · rw[egB,c];rfl
    intro (t8:Bool) e8
    refine⟨λc=>⟨⟨0,rfl,by omega,by simp⟩,?_⟩,λc=>by rw[←e8,c];rfl⟩
    rintro⟨i9,l9⟩ ⟨k,rfl,hk,e9⟩
    simp only at e9 ⊢
    have hl9:l9.length=C.length:=by rw[e9,List.length_append,List.length_map,List.length_take,List.length_drop];omega
    simp only[Int.toNat_natCast,hl9]
    refine⟨λc2=>⟨range2 (by omega) c2,by omega,λx hx=>⟨range2 (by omega) c2,by omega,λy hy=>?_⟩⟩,λc2=>?_⟩
    · rw[hx]at hy;cases hy
      have hkl:k<C.length:=by omega
      rw[W_succ (n:=C.length) hkl (by omega)]
      refine⟨⟨k+1,rfl,by omega,?_⟩,by omega⟩
      have hml:((C.take k).map (egF n C)).length=k:=by rw[List.length_map,List.length_take];omega
      have hd:C.drop k=C[k]::C.drop (k+1):=by rw[List.drop_eq_getElem_cons hkl]
      have hx2:x=C[k]:=by
        rw[e9,List.getElem?_append_right (by omega),hml,Nat.sub_self,hd]at hx
        exact(Option.some.inj hx).symm
      subst hx2
      rw[e9,List.set_append_right _ _ (by omega),hml,Nat.sub_self,hd,List.set_cons_zero,take_succ (List.getElem?_eq_getElem hkl),List.map_append,List.append_assoc]
      rfl
    · have:k=C.length:=by omega
      subst this
      rw[e9,List.take_length,List.drop_length,List.append_nil,←e8,c]
      rfl
def engT_h(L:(List Int))(p:Nat)(a1:Tpl)(h:a1.rs.length≤100∧a1.ls.length≤1000):HC Tryd.prog:=⟨21,[.k,(.a [(.s 2),(.s 5)])],[.ref 0 0,.agg [.sl 2 (a1.rs.map Rtr.v) false,.sl 5 (a1.ls.map Lnk.v) false]],[.box (.agg [.sl 1 (L.map AV.int) false,.int ((p:Nat):Int)])],engT_e ((⟨L,(engT L p a1).2⟩:Tap),(engT L p a1).1),engT_b ((⟨L,(engT L p a1).2⟩:Tap),(engT L p a1).1),HSpec.of_okh λok ok2=>have ok:engT_a L p a1:=⟨ok,ok2 _ (by simp)⟩;(engT_p L p a1 h ok).elim λI0 h=>h.elim λI1 h=>h.elim λm1 h=>h.elim λI2 h=>h.elim λI3 h=>h.elim λm3 h=>h.elim λI4 h=>h.elim λI5 h=>h.elim λI6 h=>h.elim λI7 h=>h.elim λI8 h=>h.elim λI9 h=>h.elim λm9 h=>mxH_of (sh:=(.a [.k,(.s 4)])) (enc:=engT_e) (hB:=engT_b) (a:=(engT_x L p a1 I0 I1 m1 I2 I3 m3 I4 I5 I6 I7 I8 I9 m9).an) h (by kernel_rfl),fnB_ok (by kernel_rfl),HcOk.of (by simp[hcB,belBL,AV.belB,allB,okBk,okBkO,engT_e,engT_b,pureBL_map (v:=AV.int) (λ_=>rfl),pureBL_map (v:=Lnk.v) (λ_=>rfl),pureBL_map (v:=Rtr.v) (λ_=>rfl)])⟩
theorem ful30_len(t:Tpl):(ful30 t 64).1.list.length≤64:=by
 unfold ful30
 split
 ·simp
 split
 ·simp
 split
 ·simp
 ·simp only;omega
theorem engT_len(L:List Int)(p:Nat)(t:Tpl):(engT L p t).1.list.length≤64:=by
 unfold engT
 split
 ·exact ful30_len t
 ·have h:egN L p≤64:=by
   have:=pickI_mem (l:=[64,64,32,16]) (by simp) (rawV L p)
   simp at this;unfold egN;omega
  have h2:(egC (egN L p) (egW L p t).1).length≤64:=by
   unfold egC;rw[List.length_take];unfold minI;split<;>omega
  simp only[egE]
  split
  ·rw[List.length_map];exact h2
  ·exact h2
theorem trcT_len(t:Trc):(trcT t).length=t.cr.length+t.dl.length+t.lo.length:=by simp[trcT];omega
def tracL_a(t:(List Int))(raw:Trc):Prop:=okL [.sl 1 (t.map AV.int) false,.agg [.sl 11 (raw.dl.map Dlr.v) false,.sl 3 (raw.cr.map Crs.v) false,.sl 2 (raw.lo.map Los.v) false]]
def tracL_n0(t:(List Int))(raw:Trc)(t0:Bool):NF:=⟨[(0,.k,.sl 1 (t.map AV.int) false),(3,.k,.ref 0 0),(31,.k,.bool t0)],[.box (.agg [.sl 11 (raw.dl.map Dlr.v) false,.sl 3 (raw.cr.map Crs.v) false,.sl 2 (raw.lo.map Los.v) false])]⟩
def tracL_n1(raw:Trc)(t1:Tap):NF:=⟨[(3,.k,.ref 0 0),(5,.k,.ref 1 0)],[.box (.agg [.sl 11 (raw.dl.map Dlr.v) false,.sl 3 (raw.cr.map Crs.v) false,.sl 2 (raw.lo.map Los.v) false]),.box (.agg [.sl 1 (t1.L.map AV.int) false,.int ((t1.p:Nat):Int)])]⟩
def tracL_n2(raw:Trc)(t1:Tap)(t2:Tpl):NF:=⟨[(3,.k,.ref 0 0),(5,.k,.ref 1 0),(6,.k,.ref 2 0)],[.box (.agg [.sl 11 (raw.dl.map Dlr.v) false,.sl 3 (raw.cr.map Crs.v) false,.sl 2 (raw.lo.map Los.v) false]),.box (.agg [.sl 1 (t1.L.map AV.int) false,.int ((((topoT t1.L t1.p 6).2):Nat):Int)]),.box (.agg [.sl 2 (t2.rs.map Rtr.v) false,.sl 5 (t2.ls.map Lnk.v) false])]⟩
def tracL_n3(raw:Trc)(t1:Tap)(t2:Tpl)(t3:Eng):NF:=⟨[(3,.k,.ref 0 0),(5,.k,.ref 1 0),(6,.k,.ref 2 0),(7,.k,.ref 3 0)],[.box (.agg [.sl 11 (raw.dl.map Dlr.v) false,.sl 3 (raw.cr.map Crs.v) false,.sl 2 (raw.lo.map Los.v) false]),.box (.agg [.sl 1 (t1.L.map AV.int) false,.int ((((engT t1.L ((topoT t1.L t1.p 6).2) t2).2):Nat):Int)]),.box (.agg [.sl 2 (t2.rs.map Rtr.v) false,.sl 5 (t2.ls.map Lnk.v) false]),.box (.agg [.int t3.len,.sl 4 (t3.list.map Adj.v) false])]⟩
def tracL_n4(raw:Trc)(t1:Tap)(t2:Tpl)(t3:Eng)(t4:Int×Int×Pkt×Nat):NF:=⟨[(3,.k,.ref 0 0),(5,.k,.ref 1 0),(6,.k,.ref 2 0),(7,.k,.ref 3 0),(8,.k,.ref 4 0),(44,.k,.sl 4 (t3.list.map Adj.v) false),(45,.k,.int t4.1),(46,.k,.int t4.2.1)],[.box (.agg [.sl 11 (raw.dl.map Dlr.v) false,.sl 3 (raw.cr.map Crs.v) false,.sl 2 (raw.lo.map Los.v) false]),.box (.agg [.sl 1 (t1.L.map AV.int) false,.int ((t4.2.2.2:Nat):Int)]),.box (.agg [.sl 2 (t2.rs.map Rtr.v) false,.sl 5 (t2.ls.map Lnk.v) false]),.box (.agg [.int t3.len,.sl 4 (t3.list.map Adj.v) false]),.box (.agg [.int t4.2.2.1.mode,.int t4.2.2.1.sub,.int t4.2.2.1.set,.int t4.2.2.1.len,.int t4.2.2.1.ttl,.int t4.2.2.1.ent,.int t4.2.2.1.ing,.int t4.2.2.1.proto,.val (.int .u64 t4.2.2.1.bits),.str t4.2.2.1.pay])]⟩
def tracL_n5(raw:Trc)(t1:Tap)(t2:Tpl)(t3:Eng)(t4:Int×Int×Pkt×Nat)(x3:Adj)(t5:Bool):NF:=⟨[(3,.k,.ref 0 0),(5,.k,.ref 1 0),(6,.k,.ref 2 0),(7,.k,.ref 3 0),(8,.k,.ref 4 0),(10,.k,.ref 5 0),(44,.k,.sl 4 (t3.list.map Adj.v) false),(45,.k,.int t4.1),(46,.k,.int t4.2.1),(52,.k,.bool t5)],[.box (.agg [.sl 11 (raw.dl.map Dlr.v) false,.sl 3 (raw.cr.map Crs.v) false,.sl 2 (raw.lo.map Los.v) false]),.box (.agg [.sl 1 (t1.L.map AV.int) false,.int (((rawP t1.L t4.2.2.2):Nat):Int)]),.box (.agg [.sl 2 (t2.rs.map Rtr.v) false,.sl 5 (t2.ls.map Lnk.v) false]),.box (.agg [.int t3.len,.sl 4 (t3.list.map Adj.v) false]),.box (.agg [.int t4.2.2.1.mode,.int t4.2.2.1.sub,.int t4.2.2.1.set,.int t4.2.2.1.len,.int t4.2.2.1.ttl,.int t4.2.2.1.ent,.int t4.2.2.1.ing,.int t4.2.2.1.proto,.val (.int .u64 t4.2.2.1.bits),.str t4.2.2.1.pay]),.box (.agg [.int x3.bit,.int x3.router,.int x3.kind,.int x3.to])]⟩
def tracL_n6(raw:Trc)(t6:Trc):NF:=⟨[(3,.k,.ref 0 0),(11,.k,.ref 1 0)],[.box (.agg [.sl 11 (raw.dl.map Dlr.v) false,.sl 3 (raw.cr.map Crs.v) false,.sl 2 (raw.lo.map Los.v) false]),.box (.agg [.sl 11 (t6.dl.map Dlr.v) false,.sl 3 (t6.cr.map Crs.v) false,.sl 2 (t6.lo.map Los.v) false])]⟩
def tracL_n7(raw:Trc)(t6:Trc)(t7:Int):NF:=⟨[(74,.k,.sl 3 [.agg [.sl 11 (raw.dl.map Dlr.v) false,.sl 3 (raw.cr.map Crs.v) false,.sl 2 (raw.lo.map Los.v) false],.agg [.sl 11 (t6.dl.map Dlr.v) false,.sl 3 (t6.cr.map Crs.v) false,.sl 2 (t6.lo.map Los.v) false]] true),(75,.k,.int 2),(76,.k,.int t7)],[]⟩
def tracL_n8(raw:Trc)(t6:Trc)(t7:Int)(t8:Bool):NF:=⟨[(74,.k,.sl 3 [.agg [.sl 11 (raw.dl.map Dlr.v) false,.sl 3 (raw.cr.map Crs.v) false,.sl 2 (raw.lo.map Los.v) false],.agg [.sl 11 (t6.dl.map Dlr.v) false,.sl 3 (t6.cr.map Crs.v) false,.sl 2 (t6.lo.map Los.v) false]] true),(75,.k,.int 2),(76,.k,.int t7),(102,.k,.bool t8)],[]⟩
@[reducible] def tracL_s:Nat→Type
 | 0=>Bool
 | 1=>Tap
 | 2=>Tpl
 | 3=>Eng
 | 4=>Int×Int×Pkt×Nat
 | 5=>Bool
 | 6=>Trc
 | 7=>Int
 | 8=>Bool
 | _=>Unit
def tracL_e(r:Bool):AV:=.bool r
def tracL_x(t:(List Int))(raw:Trc)(I0:Bool→Prop)(I4:Bool→Tap→Tpl→Eng→(Int×Int×Pkt×Nat)→Prop)(m4:Bool→Tap→Tpl→Eng→(Int×Int×Pkt×Nat)→Nat)(I7:Bool→Tap→Tpl→Eng→Int×Int×Pkt×Nat→Trc→Int→Prop)(m7:Bool→Tap→Tpl→Eng→Int×Int×Pkt×Nat→Trc→Int→Nat)(I8:Bool→Tap→Tpl→Eng→Int×Int×Pkt×Nat→Trc→Int→Trc→Bool→Prop):Ax Tryd.prog tracL_s (Bool):=
 (.pass (.pass (.join 0 (tracL_n0 t raw) (λ(t0:Bool)=>I0 t0) (λb0=>(.br 112 (decide (60<((raw.cr.map Crs.v).length:Int))) (.bk 0 b0 ((true):Bool) [0])
(.br 208 (decide (60<((raw.dl.map Dlr.v).length:Int))) (.bk 0 b0 ((true):Bool) [0])
(.bk 0 b0 ((decide (60<((raw.lo.map Los.v).length:Int))):Bool) [0])))) λ(t0:Bool) =>
(.br 1 t0 (.callP (awk42_c )
(.ret (true)))
(.join 1 (tracL_n1 raw) (λ(t1:Tap)=>t1=(((⟨t.take 2000,0⟩:Tap)):Tap)) (λb1=>(.callH [] (New_h t) 17
(.bk 1 b1 (((⟨t.take 2000,0⟩:Tap)):Tap) [0,17]))) λ(t1:Tap) =>
(.join 2 (tracL_n2 raw t1) (λ(t2:Tpl)=>t2=(((topoT t1.L t1.p 6).1):Tpl)) (λb2=>(.req 18 (1≤6∧6≤100) λh1 =>
(.callH [1] (topoT_h t1.L t1.p 6 h1) 18
(.bk 2 b2 (((topoT t1.L t1.p 6).1):Tpl) [0,1,34])))) λ(t2:Tpl) =>
(.join 3 (tracL_n3 raw t1 t2) (λ(t3:Eng)=>t3=(((engT t1.L ((topoT t1.L t1.p 6).2) t2).1):Eng)) (λb3=>(.req 35 (t2.rs.length≤100∧t2.ls.length≤1000) λh2 =>
(.callH [1] (engT_h t1.L ((topoT t1.L t1.p 6).2) t2 h2) 35
(.bk 3 b3 (((engT t1.L ((topoT t1.L t1.p 6).2) t2).1):Eng) [0,1,2,51])))) λ(t3:Eng) =>
(.loop 4 (tracL_n4 raw t1 t2 t3) (I4 t0 t1 t2 t3) (m4 t0 t1 t2 t3) (((t3.list.map Adj.v).length:Int),0,(⟨2,0,0,t3.len,9,0,0,0,0,B []⟩:Pkt),(engT t1.L ((topoT t1.L t1.p 6).2) t2).2) [0,1,2,3,52] λ(t4:Int×Int×Pkt×Nat) b4 =>
(.br 21 (decide (t4.2.1<t4.1)) (.el 21 Adj.v t3.list (λR=>Rf (t3.list.map Adj.v) (ck (decide (0≤t4.2.1)) (ck (decide (t4.2.1<(t3.list.length:Int)))
(∀x3,t3.list[t4.2.1.toNat]?=some x3 →
(R x3))))) λx3 =>
(.join 5 (tracL_n5 raw t1 t2 t3 t4 x3) (λ(t5:Bool)=>t5=((decide (0<(Mod (rawV t1.L t4.2.2.2) 3))):Bool)) (λb5=>(.callH [1] (N_h t1.L t4.2.2.2 3) 101
(.bk 5 b5 ((decide (0<(Mod (rawV t1.L t4.2.2.2) 3))):Bool) [0,1,2,3,4,53]))) λ(t5:Bool) =>
(.br 6 t5 (.say (ck (decide (0≤(IntKind.u64.wrap x3.bit)))) (.bk 4 b4 (t4.1,W (t4.2.1+1),(⟨t4.2.2.1.mode,t4.2.2.1.sub,t4.2.2.1.set,t4.2.2.1.len,t4.2.2.1.ttl,t4.2.2.1.ent,t4.2.2.1.ing,t4.2.2.1.proto,bOr .u64 t4.2.2.1.bits (shlI .u64 1 (IntKind.u64.wrap x3.bit)),t4.2.2.1.pay⟩:Pkt),rawP t1.L t4.2.2.2) [0,1,2,3,4]))
(.bk 4 b4 (t4.1,W (t4.2.1+1),t4.2.2.1,rawP t1.L t4.2.2.2) [0,1,2,3,4]))))
(.join 6 (tracL_n6 raw) (λ(t6:Trc)=>t6=(((run31 t3 t2 t4.2.2.1 ((rtrT t1.L t4.2.2.2 t2).1)).1):Trc)) (λb6=>(.callH [1] (rtrT_h t1.L t4.2.2.2 t2) 101
(.req 117 (t3.list.length≤64) λh4 =>
(.callP (run31_c t3 t2 t4.2.2.1 ((rtrT t1.L t4.2.2.2 t2).1) h4)
(.bk 6 b6 (((run31 t3 t2 t4.2.2.1 ((rtrT t1.L t4.2.2.2 t2).1)).1):Trc) [0,181]))))) λ(t6:Trc) =>
(.loop 7 (tracL_n7 raw t6) (I7 t0 t1 t2 t3 t4 t6) (m7 t0 t1 t2 t3 t4 t6) ((0):Int) [] λ(t7:Int) b7 =>
(.br 16 (decide (t7<2)) (.el 16 Trc.v [raw,t6] (λR=>Rf (α:=List AV) [.agg [.sl 11 (raw.dl.map Dlr.v) false,.sl 3 (raw.cr.map Crs.v) false,.sl 2 (raw.lo.map Los.v) false],.agg [.sl 11 (t6.dl.map Dlr.v) false,.sl 3 (t6.cr.map Crs.v) false,.sl 2 (t6.lo.map Los.v) false]] (ck (decide (0≤t7)) (ck (decide (t7<([raw,t6].length:Int)))
(∀x5,[raw,t6][t7.toNat]?=some x5 →
(R x5))))) λx5 =>
(.req 96 (x5.cr.length≤200000∧x5.dl.length≤200000∧x5.lo.length≤200000) λh6 =>
(.callP (trcP_c x5 h6)
(.join 8 (tracL_n8 raw t6 t7) (λ(t8:Bool)=>I8 t0 t1 t2 t3 t4 t6 t7 x5 t8) (λb8=>(.req 160 (x5.cr.length≤200000∧x5.dl.length≤200000∧x5.lo.length≤200000) λh7 =>
(.callP (trcR_c x5 h7)
(.callP (sameT_c (trcT x5) (trcT x5))
(.br 224 (!(decide ((trcT x5)=(trcT x5)))) (.bk 8 b8 ((true):Bool) [])
(.bk 8 b8 (((((trcT x5).map AV.str).length:Int) != (W ((W (((x5.cr.map Crs.v).length:Int)+((x5.dl.map Dlr.v).length:Int)))+((x5.lo.map Los.v).length:Int)))):Bool) [])))))) λ(t8:Bool) =>
(.br 0 t8 (.ret (false))
(.bk 7 b7 ((W (t7+1)):Int) []))))))
(.callP (awk42_c )
(.ret (true)))))))))))))))
def tracL_vc(t:(List Int))(raw:Trc)(I0:Bool→Prop)(I4:Bool→Tap→Tpl→Eng→(Int×Int×Pkt×Nat)→Prop)(m4:Bool→Tap→Tpl→Eng→(Int×Int×Pkt×Nat)→Nat)(I7:Bool→Tap→Tpl→Eng→Int×Int×Pkt×Nat→Trc→Int→Prop)(m7:Bool→Tap→Tpl→Eng→Int×Int×Pkt×Nat→Trc→Int→Nat)(I8:Bool→Tap→Tpl→Eng→Int×Int×Pkt×Nat→Trc→Int→Trc→Bool→Prop)(r0:Bool):Prop:=(tracL_x t raw I0 I4 m4 I7 m7 I8).vp tracL_e r0
theorem tracL_p(t:List Int)(raw:Trc)(ok:tracL_a t raw):∃I0 I4 m4 I7 m7 I8,tracL_vc t raw I0 I4 m4 I7 m7 I8 true:=by
 refine⟨λb=>b=decide (60<raw.cr.length∨60<raw.dl.length∨60<raw.lo.length),λ_ _ _ e s=>s.1=e.list.length∧∃k:Nat,s.2.1=k∧k≤e.list.length,λ_ _ _ e s=>e.list.length-s.2.1.toNat,
  λ_ _ _ _ _ _ i=>∃k:Nat,i=k∧k≤2,λ_ _ _ _ _ _ i=>2-i.toNat,λ_ _ _ _ _ _ _ _ b=>b=false,?_⟩
 dsimp only[tracL_vc,tracL_x,tracL_s,Ax.vp,Ax.vc];simp only[vcU,rfU,List.length_map]
 refine⟨⟨λc=>(decide_eq_true (by omega)).symm,λc0=>⟨λc=>(decide_eq_true (by omega)).symm,λc1=>decide_eq_decide.mpr (by omega)⟩⟩,?_⟩
 rintro _ rfl
 refine⟨λ_=>trivial,λc=>⟨trivial,?_⟩⟩
 have c:=of_decide_eq_false c
 rintro _ rfl
 simp only
 refine⟨⟨by omega,trivial⟩,?_⟩
 rintro T hT
 have t1:=topoT_rs (L:=List.take 2000 t) (p:=0) (most:=6) (by omega)
 have t2:=topoT_ls (L:=List.take 2000 t) (p:=0) (most:=6) (by omega)
 rw[←hT]at t1 t2
 refine⟨⟨by omega,trivial⟩,?_⟩
 rintro E hE
 have t3:=engT_len (List.take 2000 t) (topoT (List.take 2000 t) 0 6).2 T
 rw[←hE]at t3
 refine⟨⟨trivial,0,rfl,by omega⟩,?_⟩
 rintro⟨_,_,q,p1⟩ ⟨rfl,k,rfl,hk⟩
 simp only[Int.toNat_natCast]
 refine⟨λc1=>⟨by omega,c1,λx hx=>⟨trivial,?_⟩⟩,λc1=>?_⟩
 ·rintro _ rfl
  rw[W_succ (n:=E.list.length) (by omega) (by omega)]
  exact⟨λ_=>⟨(u64_ok (wrap_inK _ _)).1,⟨trivial,k+1,rfl,by omega⟩,by omega⟩,λ_=>⟨⟨trivial,k+1,rfl,by omega⟩,by omega⟩⟩
 have hb:=run31_len (t:=T) (p:=q) (r:=(rtrT (List.take 2000 t) p1 T).1) t3
 refine⟨⟨t3,trivial⟩,?_⟩
 rintro M hM
 rw[←hM]at hb
 refine⟨⟨0,rfl,by omega⟩,?_⟩
 rintro _ ⟨j,rfl,hj⟩
 refine⟨λc2=>⟨by omega,by simp;omega,λx hx=>?_⟩,λc2=>trivial⟩
 have hy:x.cr.length≤200000∧x.dl.length≤200000∧x.lo.length≤200000:=by
  have:=mem_of_get hx
  simp only[List.mem_cons,List.not_mem_nil,or_false]at this
  rcases this with rfl|rfl
  ·omega
  ·exact hb
 have w1:W ((x.cr.length:Int)+x.dl.length)=(x.cr.length:Int)+x.dl.length:=W_eq (by omega)
 have w2:W ((x.cr.length:Int)+x.dl.length+x.lo.length)=(x.cr.length:Int)+x.dl.length+x.lo.length:=W_eq (by omega)
 refine⟨hy,⟨hy,λe=>by simp at e,λ_=>by rw[trcT_len,w1,w2];simp⟩,?_⟩
 rintro _ rfl
 refine⟨λq=>by simp at q,λ_=>⟨⟨j+1,W_succ (n:=2) (by omega) (by omega),by omega⟩,by rw[W_succ (n:=2) (by omega) (by omega)];omega⟩⟩
def tracL_c(t:(List Int))(raw:Trc):PC Tryd.prog:=⟨4,[(.s 1),(.a [(.s 11),(.s 3),(.s 2)])],[.sl 1 (t.map AV.int) false,.agg [.sl 11 (raw.dl.map Dlr.v) false,.sl 3 (raw.cr.map Crs.v) false,.sl 2 (raw.lo.map Los.v) false]],tracL_e true,PSpec.of_ok λok=>(tracL_p t raw ok).elim λI0 h=>h.elim λI4 h=>h.elim λm4 h=>h.elim λI7 h=>h.elim λm7 h=>h.elim λI8 h=>mxP_of (sh:=.k) (enc:=tracL_e) (a:=(tracL_x t raw I0 I4 m4 I7 m7 I8).an) h (by kernel_rfl) (AV.pureB_ok rfl),fnB_ok (by kernel_rfl)⟩
end Go.Proofs.YteooglpnechplaaDoor
