/- Texts joined: G11 U2 Mx7. -/
import Derived.Shelf.SlSortCmp.NoneTotal
import Derived.Shelf.SlSortCmp.WholeK
import Derived.Test.YtgnogboljobocaaGreatDoorQT5
set_option linter.unusedVariables false
set_option linter.unusedSimpArgs false
namespace Go.Proofs.YtgnogboljobocaaGreatDoor
open Go Go.Am
def appA(x:Wnt)(l:List Wnt):List Wnt:=l++[x]
def appB(y:Wnt)(l:List Wnt):List Wnt:=if noF ⟨y.mode,y.srcs⟩=true then l else l++[y]
def appC(x y:Wnt)(l:List Wnt):List Wnt:=appB y l
def appA_a(x:Wnt)(out:(List Wnt)):Prop:=okL [.rptr (.agg [.int x.grp,.int x.mode,.sl 1 (x.srcs.map AV.int) false]) 0,.val (.pointer none),.ref 0 0]∧(.box (.vec 1):Blk).ok∧(.vec 3 (out.map Wnt.v):Blk).ok
def appA_s:Nat→Type
 | _=>Unit
def appA_e(r:(List Wnt)):AV:=.tup []
def appA_b(r:(List Wnt)):List (Option Blk):=[some (.box (.vec 2)),none,some (.vec 3 (r.map Wnt.v))]
def appA_vc(x:Wnt)(out:(List Wnt))(r0:(List Wnt)):Prop:=
 ∃h1:x.srcs.length≤1000000,
 Cl (copiedW_c x h1)
 (Rf (α:=List AV) (out.map Wnt.v) (Rf (α:=List AV) [.agg [.int x.grp,.int x.mode,.sl 1 (x.srcs.map AV.int) false]]
 (ck (decide (out.length+1≤1000000))
 (Qt ⟨[],[.box (.vec 2),.gone,.vec 3 ((out++[x]).map Wnt.v) (pureBL_map (fun _=>rfl) (out++[x]))]⟩ [0,1,146] appA_e appA_b (out++[x]) r0))))
theorem appA_p(x:Wnt)(l:List Wnt)(h:x.srcs.length≤1000000)(hl:l.length≤900000)(ok:appA_a x l):appA_vc x l (appA x l):=by
 simp only [appA_vc,vcU,rfU,List.length_map]
 exact ⟨h,by omega,rfl⟩
def appA_h(x:Wnt)(out:(List Wnt))(h:x.srcs.length≤1000000)(hl:out.length≤900000):HC Tryz.prog:=⟨244,[.k,.k,.k],[.rptr (.agg [.int x.grp,.int x.mode,.sl 1 (x.srcs.map AV.int) false]) 0,.val (.pointer none),.ref 0 0],[.box (.vec 1),.vec 3 (out.map Wnt.v)],appA_e (appA x out),appA_b (appA x out),HSpec.of_okh fun ok ok2=>have ok:appA_a x out:=⟨ok,ok2 _ (by simp),ok2 _ (by simp)⟩;mxH_of (sh:=.k) (enc:=appA_e) (hB:=appA_b) (a:=((.req 114 (x.srcs.length≤1000000) fun h1 =>
 (.callP (copiedW_c x h1)
 (.app 146 Wnt.v out [x]
 (.retH (out++[x]) ⟨[],[.box (.vec 2),.gone,.vec 3 ((out++[x]).map Wnt.v) (pureBL_map (fun _=>rfl) (out++[x]))]⟩ [0,1,146])))):An Tryz.prog appA_s ((List Wnt)))) (appA_p x out h hl ok) (by kernel_rfl),fnB_ok (by kernel_rfl),HcOk.of (by simp [hcB,belBL,AV.belB,allB,okBk,okBkO,appA_e,appA_b,pureBL_map (v:=AV.int) (fun _=>rfl),pureBL_map (v:=Wnt.v) (fun _=>rfl)])⟩
def appB_a(y:Wnt)(out:(List Wnt)):Prop:=okL [.val (.pointer none),.rptr (.agg [.int y.grp,.int y.mode,.sl 1 (y.srcs.map AV.int) false]) 0,.ref 0 0]∧(.box (.vec 1):Blk).ok∧(.vec 3 (out.map Wnt.v):Blk).ok
def appB_s:Nat→Type
 | _=>Unit
def appB_e(r:(List Wnt)):AV:=.tup []
def appB_b(r:(List Wnt)):List (Option Blk):=[some (.box (.vec 2)),none,some (.vec 3 (r.map Wnt.v))]
def appB_vc(y:Wnt)(out:(List Wnt))(r0:(List Wnt)):Prop:=
 Cl (noF_c (⟨y.mode,y.srcs⟩:Flt))
 (br (!(noF (⟨y.mode,y.srcs⟩:Flt)))
 (∃h1:y.srcs.length≤1000000,
 Cl (copiedW_c y h1)
 (Rf (α:=List AV) (out.map Wnt.v) (Rf (α:=List AV) [.agg [.int y.grp,.int y.mode,.sl 1 (y.srcs.map AV.int) false]]
 (ck (decide (out.length+1≤1000000))
 (Qt ⟨[],[.box (.vec 2),.gone,.vec 3 ((out++[y]).map Wnt.v) (pureBL_map (fun _=>rfl) (out++[y]))]⟩ [0,1,258] appB_e appB_b (out++[y]) r0)))))
 (Qt ⟨[],[.box (.vec 2),.gone,.vec 3 (out.map Wnt.v) (pureBL_map (fun _=>rfl) out)]⟩ [0,1,1] appB_e appB_b out r0))
theorem appB_p(y:Wnt)(l:List Wnt)(h:y.srcs.length≤1000000)(hl:l.length≤900000)(ok:appB_a y l):appB_vc y l (appB y l):=by
 simp only [appB_vc,vcU,rfU,List.length_map]
 refine ⟨fun e=>⟨h,by omega,?_⟩,fun e=>?_⟩
 ·rw [appB,if_neg (by simpa using e)]
 ·rw [appB,if_pos (by simpa using e)]
def appB_h(y:Wnt)(out:(List Wnt))(h:y.srcs.length≤1000000)(hl:out.length≤900000):HC Tryz.prog:=⟨244,[.k,.k,.k],[.val (.pointer none),.rptr (.agg [.int y.grp,.int y.mode,.sl 1 (y.srcs.map AV.int) false]) 0,.ref 0 0],[.box (.vec 1),.vec 3 (out.map Wnt.v)],appB_e (appB y out),appB_b (appB y out),HSpec.of_okh fun ok ok2=>have ok:appB_a y out:=⟨ok,ok2 _ (by simp),ok2 _ (by simp)⟩;mxH_of (sh:=.k) (enc:=appB_e) (hB:=appB_b) (a:=((.callP (noF_c (⟨y.mode,y.srcs⟩:Flt))
 (.br 162 (.req 226 (y.srcs.length≤1000000) fun h1 =>
 (.callP (copiedW_c y h1)
 (.app 258 Wnt.v out [y]
 (.retH (out++[y]) ⟨[],[.box (.vec 2),.gone,.vec 3 ((out++[y]).map Wnt.v) (pureBL_map (fun _=>rfl) (out++[y]))]⟩ [0,1,258]))))
 (.retH out ⟨[],[.box (.vec 2),.gone,.vec 3 (out.map Wnt.v) (pureBL_map (fun _=>rfl) out)]⟩ [0,1,1]))):An Tryz.prog appB_s ((List Wnt)))) (appB_p y out h hl ok) (by kernel_rfl),fnB_ok (by kernel_rfl),HcOk.of (by simp [hcB,belBL,AV.belB,allB,okBk,okBkO,appB_e,appB_b,pureBL_map (v:=AV.int) (fun _=>rfl),pureBL_map (v:=Wnt.v) (fun _=>rfl)])⟩
def appC_a(x:Wnt)(y:Wnt)(out:(List Wnt)):Prop:=okL [.rptr (.agg [.int x.grp,.int x.mode,.sl 1 (x.srcs.map AV.int) false]) 0,.rptr (.agg [.int y.grp,.int y.mode,.sl 1 (y.srcs.map AV.int) false]) 0,.ref 0 0]∧(.box (.vec 1):Blk).ok∧(.vec 3 (out.map Wnt.v):Blk).ok
def appC_s:Nat→Type
 | _=>Unit
def appC_e(r:(List Wnt)):AV:=.tup []
def appC_b(r:(List Wnt)):List (Option Blk):=[some (.box (.vec 2)),none,some (.vec 3 (r.map Wnt.v))]
def appC_vc(x:Wnt)(y:Wnt)(out:(List Wnt))(r0:(List Wnt)):Prop:=
 Cl (noF_c (⟨y.mode,y.srcs⟩:Flt))
 (br (!(noF (⟨y.mode,y.srcs⟩:Flt)))
 (∃h1:y.srcs.length≤1000000,
 Cl (copiedW_c y h1)
 (Rf (α:=List AV) (out.map Wnt.v) (Rf (α:=List AV) [.agg [.int y.grp,.int y.mode,.sl 1 (y.srcs.map AV.int) false]]
 (ck (decide (out.length+1≤1000000))
 (Qt ⟨[],[.box (.vec 2),.gone,.vec 3 ((out++[y]).map Wnt.v) (pureBL_map (fun _=>rfl) (out++[y]))]⟩ [0,1,258] appC_e appC_b (out++[y]) r0)))))
 (Qt ⟨[],[.box (.vec 2),.gone,.vec 3 (out.map Wnt.v) (pureBL_map (fun _=>rfl) out)]⟩ [0,1,1] appC_e appC_b out r0))
theorem appC_p(x y:Wnt)(l:List Wnt)(h:y.srcs.length≤1000000)(hl:l.length≤900000)(ok:appC_a x y l):appC_vc x y l (appC x y l):=by
 simp only [appC_vc,vcU,rfU,List.length_map]
 refine ⟨fun e=>⟨h,by omega,?_⟩,fun e=>?_⟩
 ·rw [appC,appB,if_neg (by simpa using e)]
 ·rw [appC,appB,if_pos (by simpa using e)]
def appC_h(x:Wnt)(y:Wnt)(out:(List Wnt))(h:y.srcs.length≤1000000)(hl:out.length≤900000):HC Tryz.prog:=⟨244,[.k,.k,.k],[.rptr (.agg [.int x.grp,.int x.mode,.sl 1 (x.srcs.map AV.int) false]) 0,.rptr (.agg [.int y.grp,.int y.mode,.sl 1 (y.srcs.map AV.int) false]) 0,.ref 0 0],[.box (.vec 1),.vec 3 (out.map Wnt.v)],appC_e (appC x y out),appC_b (appC x y out),HSpec.of_okh fun ok ok2=>have ok:appC_a x y out:=⟨ok,ok2 _ (by simp),ok2 _ (by simp)⟩;mxH_of (sh:=.k) (enc:=appC_e) (hB:=appC_b) (a:=((.callP (noF_c (⟨y.mode,y.srcs⟩:Flt))
 (.br 162 (.req 226 (y.srcs.length≤1000000) fun h1 =>
 (.callP (copiedW_c y h1)
 (.app 258 Wnt.v out [y]
 (.retH (out++[y]) ⟨[],[.box (.vec 2),.gone,.vec 3 ((out++[y]).map Wnt.v) (pureBL_map (fun _=>rfl) (out++[y]))]⟩ [0,1,258]))))
 (.retH out ⟨[],[.box (.vec 2),.gone,.vec 3 (out.map Wnt.v) (pureBL_map (fun _=>rfl) out)]⟩ [0,1,1]))):An Tryz.prog appC_s ((List Wnt)))) (appC_p x y out h hl ok) (by kernel_rfl),fnB_ok (by kernel_rfl),HcOk.of (by simp [hcB,belBL,AV.belB,allB,okBk,okBkO,appC_e,appC_b,pureBL_map (v:=AV.int) (fun _=>rfl),pureBL_map (v:=Wnt.v) (fun _=>rfl)])⟩
def mergA:List Wnt→List Wnt→List Wnt→List Wnt
 | [],[],l=>l
 | x::a,[],l=>mergA a [] (appA x l)
 | [],y::b,l=>mergA [] b (appB y l)
 | x::a,y::b,l=>if x.grp<y.grp then mergA a (y::b) (appA x l) else if y.grp<x.grp then mergA (x::a) b (appB y l) else mergA a b (appC x y l)
termination_by a b=>a.length+b.length
def okMrg(a b l:List Wnt):Prop:=a.length≤1000∧b.length≤1000∧l.length≤100000∧(∀x∈a,x.srcs.length≤1000000)∧∀x∈b,x.srcs.length≤1000000
def mergA_a(a:(List Wnt))(b:(List Wnt))(out:(List Wnt)):Prop:=okL [.sl 3 (a.map Wnt.v) false,.sl 3 (b.map Wnt.v) false,.func 244 [.ref 0 0]]∧(.box (.vec 1):Blk).ok∧(.vec 3 (out.map Wnt.v):Blk).ok
def mergA_n0(a:(List Wnt))(b:(List Wnt))(out:(List Wnt))(t0:(List Wnt)×(List Wnt)×(List Wnt)):NF:=⟨[(0,(.s 3),.sl 3 (t0.1.map Wnt.v) false),(1,(.s 3),.sl 3 (t0.2.1.map Wnt.v) false),(2,.k,.func 244 [.ref 0 0])],[.box (.vec 2),.gone,.vec 3 (t0.2.2.map Wnt.v) (pureBL_map (fun _=>rfl) t0.2.2)]⟩
def mergA_n1(a:(List Wnt))(b:(List Wnt))(out:(List Wnt))(t0:(List Wnt)×(List Wnt)×(List Wnt))(t1:Unit):NF:=⟨[(0,.k,.sl 3 (t0.1.map Wnt.v) false),(1,.k,.sl 3 (t0.2.1.map Wnt.v) false),(2,.k,.func 244 [.ref 0 0])],[.box (.vec 2),.gone,.vec 3 (t0.2.2.map Wnt.v) (pureBL_map (fun _=>rfl) t0.2.2)]⟩
def mergA_n2(a:(List Wnt))(b:(List Wnt))(out:(List Wnt))(t0:(List Wnt)×(List Wnt)×(List Wnt))(t1:Unit)(t2:Int):NF:=⟨[(0,.k,.sl 3 (t0.1.map Wnt.v) false),(1,.k,.sl 3 (t0.2.1.map Wnt.v) false),(2,.k,.func 244 [.ref 0 0]),(6,.k,.int t2)],[.box (.vec 2),.gone,.vec 3 (t0.2.2.map Wnt.v) (pureBL_map (fun _=>rfl) t0.2.2)]⟩
def mergA_s:Nat→Type
 | 0=>(List Wnt)×(List Wnt)×(List Wnt)
 | 1=>Unit
 | 2=>Int
 | _=>Unit
def mergA_e(r:(List Wnt)):AV:=.tup []
def mergA_b(r:(List Wnt)):List (Option Blk):=[some (.box (.vec 2)),none,some (.vec 3 (r.map Wnt.v))]
def mergA_vc(a:(List Wnt))(b:(List Wnt))(out:(List Wnt))(I0:((List Wnt)×(List Wnt)×(List Wnt))→Prop)(m0:((List Wnt)×(List Wnt)×(List Wnt))→Nat)(r0:(List Wnt)):Prop:=
 Be (mergA_n0 a b out) [0,1,1] I0 (a,b,out)∧∀t0,I0 t0 →
 (br (decide (0<((t0.1.map Wnt.v).length:Int)))
 (Nf (mergA_n1 a b out t0 (())) [0,1,2] ((bif (decide (0<((t0.1.map Wnt.v).length:Int))) then true else (bif (decide (0<((t0.2.1.map Wnt.v).length:Int))) then true else false))=true))
 (br (decide (0<((t0.2.1.map Wnt.v).length:Int)))
 (Nf (mergA_n1 a b out t0 (())) [0,1,2] ((bif (decide (0<((t0.1.map Wnt.v).length:Int))) then true else (bif (decide (0<((t0.2.1.map Wnt.v).length:Int))) then true else false))=true))
 (Qt ⟨[],[.box (.vec 2),.gone,.vec 3 (t0.2.2.map Wnt.v) (pureBL_map (fun _=>rfl) t0.2.2)]⟩ [0,1,2] mergA_e mergA_b t0.2.2 r0)))∧∀t1:Unit,(bif (decide (0<((t0.1.map Wnt.v).length:Int))) then true else (bif (decide (0<((t0.2.1.map Wnt.v).length:Int))) then true else false))=true →
 (br (((t0.1.map Wnt.v).length:Int)==0)
 (Nf (mergA_n2 a b out t0 t1 (1)) [0,1,2] (((((t0.1.map Wnt.v).length:Int)==0)=true∧((1):Int)=((1):Int))∨((((t0.1.map Wnt.v).length:Int)==0)=false∧(((t0.2.1.map Wnt.v).length:Int)==0)=true∧((1):Int)=((-1):Int))∨((((t0.1.map Wnt.v).length:Int)==0)=false∧(((t0.2.1.map Wnt.v).length:Int)==0)=false∧∃x1':Wnt,t0.1[0]?=some x1'∧∃x2':Wnt,t0.2.1[0]?=some x2'∧((1):Int)=((cmpI x1'.grp x2'.grp):Int))))
 (br (((t0.2.1.map Wnt.v).length:Int)==0)
 (Nf (mergA_n2 a b out t0 t1 (-1)) [0,1,2] (((((t0.1.map Wnt.v).length:Int)==0)=true∧((-1):Int)=((1):Int))∨((((t0.1.map Wnt.v).length:Int)==0)=false∧(((t0.2.1.map Wnt.v).length:Int)==0)=true∧((-1):Int)=((-1):Int))∨((((t0.1.map Wnt.v).length:Int)==0)=false∧(((t0.2.1.map Wnt.v).length:Int)==0)=false∧∃x1':Wnt,t0.1[0]?=some x1'∧∃x2':Wnt,t0.2.1[0]?=some x2'∧((-1):Int)=((cmpI x1'.grp x2'.grp):Int))))
 (Rf (t0.1.map Wnt.v) (ck (decide (0<(t0.1.length:Int)))
 (∀x1,t0.1[0]?=some x1 →
 Rf (t0.2.1.map Wnt.v) (ck (decide (0<(t0.2.1.length:Int)))
 (∀x2,t0.2.1[0]?=some x2 →
 Cl (cmpI_c x1.grp x2.grp)
 (Nf (mergA_n2 a b out t0 t1 (cmpI x1.grp x2.grp)) [0,1,2] (((((t0.1.map Wnt.v).length:Int)==0)=true∧((cmpI x1.grp x2.grp):Int)=((1):Int))∨((((t0.1.map Wnt.v).length:Int)==0)=false∧(((t0.2.1.map Wnt.v).length:Int)==0)=true∧((cmpI x1.grp x2.grp):Int)=((-1):Int))∨((((t0.1.map Wnt.v).length:Int)==0)=false∧(((t0.2.1.map Wnt.v).length:Int)==0)=false∧∃x1':Wnt,t0.1[0]?=some x1'∧∃x2':Wnt,t0.2.1[0]?=some x2'∧((cmpI x1.grp x2.grp):Int)=((cmpI x1'.grp x2'.grp):Int)))))))))))∧∀t2:Int,((((t0.1.map Wnt.v).length:Int)==0)=true∧t2=((1):Int))∨((((t0.1.map Wnt.v).length:Int)==0)=false∧(((t0.2.1.map Wnt.v).length:Int)==0)=true∧t2=((-1):Int))∨((((t0.1.map Wnt.v).length:Int)==0)=false∧(((t0.2.1.map Wnt.v).length:Int)==0)=false∧∃x1':Wnt,t0.1[0]?=some x1'∧∃x2':Wnt,t0.2.1[0]?=some x2'∧t2=((cmpI x1'.grp x2'.grp):Int)) →
 br (decide (t2≤0))
 (Rf (t0.1.map Wnt.v) (ck (decide (0<(t0.1.length:Int)))
 (∀x3,t0.1[0]?=some x3 →
 Rf (α:=List AV) (t0.1.map Wnt.v) (ck (bndB t0.1.length 1 (t0.1.length:Int) (t0.1.length:Int))
 (br (decide (0≤t2))
 (Rf (t0.2.1.map Wnt.v) (ck (decide (0<(t0.2.1.length:Int)))
 (∀x4,t0.2.1[0]?=some x4 →
 Rf (α:=List AV) (t0.2.1.map Wnt.v) (ck (bndB t0.2.1.length 1 (t0.2.1.length:Int) (t0.2.1.length:Int))
 (∃h5:x4.srcs.length≤1000000,
 ∃h6:t0.2.2.length≤900000,
 Ch (appC_h x3 x4 t0.2.2 h5 h6) [0,2] 339
 (Bk (mergA_n0 a b out) [0,1,339] I0 m0 ((t0.1.take ((t0.1.length:Int).toNat)).drop 1,(t0.2.1.take ((t0.2.1.length:Int).toNat)).drop 1,appC x3 x4 t0.2.2) t0))))))
 (∃h7:x3.srcs.length≤1000000,
 ∃h8:t0.2.2.length≤900000,
 Ch (appA_h x3 t0.2.2 h7 h8) [0,2] 243
 (Bk (mergA_n0 a b out) [0,1,243] I0 m0 ((t0.1.take ((t0.1.length:Int).toNat)).drop 1,t0.2.1,appA x3 t0.2.2) t0)))))))
 (br (decide (0≤t2))
 (Rf (t0.2.1.map Wnt.v) (ck (decide (0<(t0.2.1.length:Int)))
 (∀x9,t0.2.1[0]?=some x9 →
 Rf (α:=List AV) (t0.2.1.map Wnt.v) (ck (bndB t0.2.1.length 1 (t0.2.1.length:Int) (t0.2.1.length:Int))
 (∃h10:x9.srcs.length≤1000000,
 ∃h11:t0.2.2.length≤900000,
 Ch (appB_h x9 t0.2.2 h10 h11) [0,2] 243
 (Bk (mergA_n0 a b out) [0,1,243] I0 m0 (t0.1,(t0.2.1.take ((t0.2.1.length:Int).toNat)).drop 1,appB x9 t0.2.2) t0))))))
 (False))
theorem appB_len(y:Wnt)(o:List Wnt):(appB y o).length≤o.length+1:=by unfold appB;split<;>simp
theorem bnd1(n:Nat):bndB (n+1) 1 ((n:Int)+1) ((n:Int)+1)=true:=by simp [bndB];omega
theorem mergA_p(a b l:List Wnt)(h:okMrg a b l)(ok:mergA_a a b l):∃I m,mergA_vc a b l I m (mergA a b l):=by
 obtain ⟨h1,h2,h3,h4,h5⟩:=h
 refine ⟨fun t=>mergA t.1 t.2.1 t.2.2=mergA a b l∧t.1.length+t.2.1.length+t.2.2.length≤102000∧(∀x∈t.1,x.srcs.length≤1000000)∧∀x∈t.2.1,x.srcs.length≤1000000,fun t=>t.1.length+t.2.1.length,?_⟩
 simp only [mergA_vc,vcU,rfU,List.length_map]
 refine ⟨⟨trivial,by omega,h4,h5⟩,?_⟩
 rintro ⟨A,B,o⟩ ⟨hm,hl,hA,hB⟩
 clear ok
 simp only at hm hl hA hB
 cases A with
 | nil=>cases B with
  | nil =>
   simp
   rw [←hm,mergA]
  | cons y B =>
   simp [bnd1]
   have hb:=appB_len y o
   rw [mergA] at hm
   simp only [List.length_cons,List.length_nil] at hl
   exact ⟨hm,by omega,by omega,hB y (by simp),fun z hz=>hB z (by simp [hz])⟩
 | cons x A =>
  have ea:¬((A.length:Int)+1=0):=by omega
  cases B with
  | nil =>
   simp [bnd1,ea]
   rw [mergA] at hm
   simp only [List.length_cons,List.length_nil] at hl
   exact ⟨hm,by simp [appA];omega,by omega,hA x (by simp),fun z hz=>hA z (by simp [hz])⟩
  | cons y B =>
   have eb:¬((B.length:Int)+1=0):=by omega
   simp [bnd1,ea,eb]
   have hb:=appB_len y o
   rw [mergA] at hm
   simp only [List.length_cons] at hl
   have hx:=hA x (by simp)
   have hy:=hB y (by simp)
   have hA':∀z∈A,z.srcs.length≤1000000:=fun z hz=>hA z (by simp [hz])
   have hB':∀z∈B,z.srcs.length≤1000000:=fun z hz=>hB z (by simp [hz])
   have hgt:0<cmpI x.grp y.grp↔y.grp<x.grp:=by
    have:=cmp_lt x.grp y.grp;have:=cmp_eq x.grp y.grp;omega
   have hlt:=cmp_lt x.grp y.grp
   have heq:=cmp_eq x.grp y.grp
   refine ⟨fun c=>⟨fun d=>⟨⟨?_,?_,hA',hB'⟩,by omega,hy,by omega⟩,fun d=>⟨?_,by simp [appA];omega,hA',hy,by omega,hx,hB'⟩⟩,fun c=>⟨fun d=>⟨?_,by omega,⟨hx,hA'⟩,by omega,hy,hB'⟩,by omega⟩⟩
   ·rw [if_neg (by omega),if_neg (by omega)] at hm;exact hm
   ·show A.length+B.length+(appB y o).length≤_;omega
   ·rw [if_pos (by omega)] at hm;exact hm
   ·rw [if_neg (by omega),if_pos (by omega)] at hm;exact hm
def mergA_h(a:(List Wnt))(b:(List Wnt))(out:(List Wnt))(h:okMrg a b out):HC Tryz.prog:=⟨223,[(.s 3),(.s 3),.k],[.sl 3 (a.map Wnt.v) false,.sl 3 (b.map Wnt.v) false,.func 244 [.ref 0 0]],[.box (.vec 1),.vec 3 (out.map Wnt.v)],mergA_e (mergA a b out),mergA_b (mergA a b out),HSpec.of_okh fun ok ok2=>have ok:mergA_a a b out:=⟨ok,ok2 _ (by simp),ok2 _ (by simp)⟩;(mergA_p a b out h ok).elim fun I0 h=>h.elim fun m0 h=>mxH_of (sh:=.k) (enc:=mergA_e) (hB:=mergA_b) (a:=((.loop 0 (mergA_n0 a b out) (I0) (m0) ((a,b,out):(List Wnt)×(List Wnt)×(List Wnt)) [0,1,1] fun (t0:(List Wnt)×(List Wnt)×(List Wnt)) =>
 (.join 1 (mergA_n1 a b out t0) (fun t1=>(bif (decide (0<((t0.1.map Wnt.v).length:Int))) then true else (bif (decide (0<((t0.2.1.map Wnt.v).length:Int))) then true else false))=true) (.br 67 (.back 1 ((()):Unit) [0,1,2])
 (.br 131 (.back 1 ((()):Unit) [0,1,2])
 (.retH t0.2.2 ⟨[],[.box (.vec 2),.gone,.vec 3 (t0.2.2.map Wnt.v) (pureBL_map (fun _=>rfl) t0.2.2)]⟩ [0,1,2]))) fun (t1:Unit) =>
 (.pass (.join 2 (mergA_n2 a b out t0 t1) (fun t2=>((((t0.1.map Wnt.v).length:Int)==0)=true∧t2=((1):Int))∨((((t0.1.map Wnt.v).length:Int)==0)=false∧(((t0.2.1.map Wnt.v).length:Int)==0)=true∧t2=((-1):Int))∨((((t0.1.map Wnt.v).length:Int)==0)=false∧(((t0.2.1.map Wnt.v).length:Int)==0)=false∧∃x1':Wnt,t0.1[0]?=some x1'∧∃x2':Wnt,t0.2.1[0]?=some x2'∧t2=((cmpI x1'.grp x2'.grp):Int))) (.br 83 (.back 2 ((1):Int) [0,1,2])
 (.br 147 (.back 2 ((-1):Int) [0,1,2])
 (.el 163 Wnt.v t0.1 fun x1 =>
 (.el 227 Wnt.v t0.2.1 fun x2 =>
 (.callP (cmpI_c x1.grp x2.grp)
 (.back 2 ((cmpI x1.grp x2.grp):Int) [0,1,2])))))) fun (t2:Int) =>
 (.br 67 (.el 83 Wnt.v t0.1 fun x3 =>
 (.sub 115 Wnt.v t0.1 false
 (.br 195 (.el 211 Wnt.v t0.2.1 fun x4 =>
 (.sub 243 Wnt.v t0.2.1 false
 (.req 339 (x4.srcs.length≤1000000) fun h5 =>
 (.req 339 (t0.2.2.length≤900000) fun h6 =>
 (.callH [0,2] (appC_h x3 x4 t0.2.2 h5 h6)
 (.back 0 (((t0.1.take ((t0.1.length:Int).toNat)).drop 1,(t0.2.1.take ((t0.2.1.length:Int).toNat)).drop 1,appC x3 x4 t0.2.2):(List Wnt)×(List Wnt)×(List Wnt)) [0,1,339]))))))
 (.req 243 (x3.srcs.length≤1000000) fun h7 =>
 (.req 243 (t0.2.2.length≤900000) fun h8 =>
 (.callH [0,2] (appA_h x3 t0.2.2 h7 h8)
 (.back 0 (((t0.1.take ((t0.1.length:Int).toNat)).drop 1,t0.2.1,appA x3 t0.2.2):(List Wnt)×(List Wnt)×(List Wnt)) [0,1,243])))))))
 (.br 99 (.el 115 Wnt.v t0.2.1 fun x9 =>
 (.sub 147 Wnt.v t0.2.1 false
 (.req 243 (x9.srcs.length≤1000000) fun h10 =>
 (.req 243 (t0.2.2.length≤900000) fun h11 =>
 (.callH [0,2] (appB_h x9 t0.2.2 h10 h11)
 (.back 0 ((t0.1,(t0.2.1.take ((t0.2.1.length:Int).toNat)).drop 1,appB x9 t0.2.2):(List Wnt)×(List Wnt)×(List Wnt)) [0,1,243]))))))
 .nil)))))):An Tryz.prog mergA_s ((List Wnt)))) h (by kernel_rfl),fnB_ok (by kernel_rfl),HcOk.of (by simp [hcB,belBL,AV.belB,allB,okBk,okBkO,mergA_e,mergA_b,pureBL_map (v:=Wnt.v) (fun _=>rfl)])⟩
def limitW(l:List Wnt):List Wnt×Int:=if 32<l.length then ([],3) else (l,0)
def limited_a(l:(List Wnt)):Prop:=okL [.sl 3 (l.map Wnt.v) false]
def limited_s:Nat→Type
 | _=>Unit
def limited_e(r:(List Wnt)×Int):AV:=.tup [.sl 3 (r.1.map Wnt.v) false,.int r.2]
def limited_vc(l:(List Wnt))(r0:(List Wnt)×Int):Prop:=
 br (decide (32<((l.map Wnt.v).length:Int)))
 (Rp limited_e ([],3) r0)
 (Rp limited_e (l,0) r0)
theorem limited_p(l:List Wnt)(ok:limited_a l):limited_vc l (limitW l):=by
 simp only [limited_vc,vcU,rfU,List.length_map]
 refine ⟨fun e=>by rw [limitW,if_pos (by omega)],fun e=>by rw [limitW,if_neg (by omega)]⟩
def limited_c(l:(List Wnt)):PC Tryz.prog:=⟨226,[(.s 3)],[.sl 3 (l.map Wnt.v) false],limited_e (limitW l),PSpec.of_ok fun ok=>mxP_of (sh:=(.a [(.s 3),.k])) (enc:=limited_e) (a:=((.br 80 (.ret ([],3))
 (.ret (l,0))):An Tryz.prog limited_s ((List Wnt)×Int))) (limited_p l ok) (by kernel_rfl) (AV.pureB_ok rfl),fnB_ok (by kernel_rfl)⟩
def applyW(old c:List Wnt):List Wnt×Int:=
 if wErr false old≠0 then ([],wErr false old) else if wErr true c≠0 then ([],wErr true c) else limitW (mergA old c [])
theorem wErr_srcs{chg:Bool}{l:List Wnt}(h:wErr chg l=0):l.length≤32∧∀x∈l,x.srcs.length≤1000000:=by
 have h:=wErr_zero.mp h
 exact ⟨h.1,fun x hx=>by have:=srcs_len (h.2.2.1 x hx);omega⟩
def applyW_a(old:(List Wnt))(changes:(List Wnt)):Prop:=okL [.sl 3 (old.map Wnt.v) false,.sl 3 (changes.map Wnt.v) false]
def applyW_s:Nat→Type
 | _=>Unit
def applyW_e(r:(List Wnt)×Int):AV:=.tup [.sl 3 (r.1.map Wnt.v) false,.int r.2]
def applyW_vc(old:(List Wnt))(changes:(List Wnt))(r0:(List Wnt)×Int):Prop:=
 Cl (valW_c old)
 (Cl (checkW_c changes true)
 (Cl (orI_c [wErr false old,wErr true changes])
 (br ((orI [wErr false old,wErr true changes]) != 0)
 (Rp applyW_e ([],orI [wErr false old,wErr true changes]) r0)
 (∃h1:okMrg old changes [],
 Ch (mergA_h old changes [] h1) [176,192] 241
 (Rf ((mergA old changes []).map Wnt.v) (Cl (limited_c (mergA old changes []))
 (Rp applyW_e ((limitW (mergA old changes [])).1,(limitW (mergA old changes [])).2) r0)))))))
theorem applyW_p(a c:List Wnt)(ok:applyW_a a c):applyW_vc a c (applyW a c):=by
 simp only [applyW_vc,vcU,rfU,List.length_map]
 rw [orI_two]
 by_cases h1:wErr false a=0
 case neg=>simp [applyW,h1]
 by_cases h2:wErr true c=0
 case neg=>simp [applyW,h1,h2]
 have b1:=wErr_srcs h1
 have b2:=wErr_srcs h2
 refine ⟨fun e=>by simp [h1,h2] at e,fun _=>?_⟩
 refine ⟨⟨by omega,by omega,by simp,b1.2,b2.2⟩,?_⟩
 rw [applyW,if_neg (not_not_intro h1),if_neg (not_not_intro h2)]
def applyW_c(old:(List Wnt))(changes:(List Wnt)):PC Tryz.prog:=⟨191,[(.s 3),(.s 3)],[.sl 3 (old.map Wnt.v) false,.sl 3 (changes.map Wnt.v) false],applyW_e (applyW old changes),PSpec.of_ok fun ok=>mxP_of (sh:=(.a [(.s 3),.k])) (enc:=applyW_e) (a:=((.callP (valW_c old)
 (.callP (checkW_c changes true)
 (.callP (orI_c [wErr false old,wErr true changes])
 (.br 176 (.ret ([],orI [wErr false old,wErr true changes]))
 (.wait (.cmd (.nilC 176 3) (.req 241 (okMrg old changes []) fun h1 =>
 (.callH [176,192] (mergA_h old changes [] h1)
 (.cmd (.frzE 241 ((mergA old changes []).map Wnt.v) (pureBL_map (fun _=>rfl) (mergA old changes []))) (.callP (limited_c (mergA old changes []))
 (.ret ((limitW (mergA old changes [])).1,(limitW (mergA old changes [])).2)))))))))))):An Tryz.prog applyW_s ((List Wnt)×Int))) (applyW_p old changes ok) (by kernel_rfl) (AV.pureB_ok rfl),fnB_ok (by kernel_rfl)⟩
theorem mergA_len:∀(c l:List Wnt),(mergA [] c l).length≤c.length+l.length
 | [],l=>by rw [mergA];simp
 | y::c,l=>by
  rw [mergA]
  have:=mergA_len c (appB y l)
  have:=appB_len y l
  simp only [List.length_cons];omega
theorem applyW_err(c:List Wnt):(applyW [] c).2=wErr true c:=by
 have h1:wErr false []=0:=wErr_zero.mpr ⟨by simp,by simp,by simp,by simp,List.Pairwise.nil⟩
 rw [applyW,if_neg (not_not_intro h1)]
 by_cases h2:wErr true c=0
 ·have:=wErr_srcs h2
  have:=mergA_len c []
  rw [if_neg (not_not_intro h2),limitW,if_neg (by simp only [List.length_nil] at this;omega)]
  exact h2.symm
 ·rw [if_pos h2]
def changeF_a(s:Spk)(changes:(List Wnt)):Prop:=okL [.agg [.int s.router,.int s.epoch,.int s.last,.sl 4 (s.items.map Itm.v) false,.sl 3 (s.peers.map Per.v) false],.sl 3 (changes.map Wnt.v) false]
def changeF_n0(s:Spk)(changes:(List Wnt))(t0:Int×Int×(List Itm)):NF:=⟨[(2,.k,.ref 0 0),(4,.k,.ref 1 0),(34,.k,.sl 3 (changes.map Wnt.v) false),(35,.k,.int ((changes.map Wnt.v).length:Int)),(36,.k,.int t0.1)],[.box (.agg [.int s.router,.int s.epoch,.int t0.2.1,.sl 4 (t0.2.2.map Itm.v) false,.sl 3 (s.peers.map Per.v) false]),.box (.agg [.int 0,.int 0,.int 0,.sl 0 [] true,.sl 0 [] true])]⟩
def changeF_s:Nat→Type
 | 0=>Int×Int×(List Itm)
 | _=>Unit
def changeF_e(r:Spk×Int):AV:=.tup [Spk.v r.1,.int r.2]
def changeF_vc(s:Spk)(changes:(List Wnt))(I0:(Int×Int×(List Itm))→Prop)(m0:(Int×Int×(List Itm))→Nat)(r0:Spk×Int):Prop:=
 Cl (valS_c s)
 (br ((valS s) != 0)
 (Rp changeF_e ((⟨0,0,0,[],[]⟩:Spk),valS s) r0)
 (Cl (applyW_c [] changes)
 (br (((applyW [] changes).2) != 0)
 (Rp changeF_e ((⟨0,0,0,[],[]⟩:Spk),(applyW [] changes).2) r0)
 (∃h1:okItms s.items,
 Ch (copied_h s.items 0 h1) [] 304
 (∃h2:s.peers.length≤1000000,
 Ch (cloneP_h s.peers h2) [] 352
 (Rf ((without 0 s.items).map Itm.v) (Rf (s.peers.map Per.v) (Be (changeF_n0 s changes) [0,16] I0 (0,s.last,without 0 s.items)∧∀t0,I0 t0 →
 br (decide (t0.1<((changes.map Wnt.v).length:Int)))
 (Rf (changes.map Wnt.v) (ck (decide (0≤t0.1)) (ck (decide (t0.1<(changes.length:Int)))
 (∀x3,changes[t0.1.toNat]?=some x3 →
 Cl (toldF_c t0.2.2 x3.grp)
 (Cl (PSame_c (toldF t0.2.2 x3.grp) (⟨x3.mode,x3.srcs⟩:Flt))
 (br (PSame (toldF t0.2.2 x3.grp) (⟨x3.mode,x3.srcs⟩:Flt))
 (Bk (changeF_n0 s changes) [0,1] I0 m0 (W (t0.1+1),t0.2.1,t0.2.2) t0)
 (br (t0.2.1==1000000)
 (Rp changeF_e ((⟨0,0,0,[],[]⟩:Spk),3) r0)
 (∃h4:okItms t0.2.2,
 Ch (copied_h t0.2.2 x3.grp h4) [] 402
 (∃h5:(⟨x3.mode,x3.srcs⟩:Flt).srcs.length≤1000000,
 Cl (filtered_c (⟨x3.mode,x3.srcs⟩:Flt) h5)
 (Rf (α:=List AV) ((without x3.grp t0.2.2).map Itm.v) (Rf (α:=List AV) [.agg [.int (W (t0.2.1+1)),.int x3.grp,.int x3.mode,.sl 1 (x3.srcs.map AV.int) false]]
 (ck (decide ((without x3.grp t0.2.2).length+1≤1000000))
 (Rf (((without x3.grp t0.2.2)++[(⟨W (t0.2.1+1),x3.grp,x3.mode,x3.srcs⟩:Itm)]).map Itm.v) (Bk (changeF_n0 s changes) [0,1] I0 m0 (W (t0.1+1),W (t0.2.1+1),(without x3.grp t0.2.2)++[(⟨W (t0.2.1+1),x3.grp,x3.mode,x3.srcs⟩:Itm)]) t0))))))))))))))
 (Rp changeF_e ((⟨s.router,s.epoch,t0.2.1,t0.2.2,s.peers⟩:Spk),0) r0)))))))))
theorem changeF_p(s:Spk)(c:List Wnt)(ok:changeF_a s c):∃I m,changeF_vc s c I m (change s c):=by
 simp only [changeF_a,okU,Blk.ok,plainV,List.length_map] at ok
 refine ⟨fun t=>t.2.1≤1000000∧∃k:Nat,t.1=k∧k≤c.length∧t.2=(c.take k).foldl chg1 (s.last,s.items),fun t=>c.length-t.1.toNat,?_⟩
 simp only [changeF_vc,vcU,rfU,List.length_map]
 by_cases hs:spkOk s
 case neg=>simp [change,valS,errIf,hs,spk0]
 rw [applyW_err]
 by_cases hc:wErr true c=0
 case neg=>simp [change,valS,errIf,hs,hc,spk0]
 have fin:change s c=if 1000000<(c.foldl chg1 (s.last,s.items)).1 then (spk0,3)
   else (⟨s.router,s.epoch,(c.foldl chg1 (s.last,s.items)).1,(c.foldl chg1 (s.last,s.items)).2,s.peers⟩,0):=by
  rw [change,if_neg (not_not_intro hs),if_neg (not_not_intro hc)]
 have hco:=chgOk_of hc
 have hl0:=hs.2.2.1
 have hpl:=hs.2.2.2.2.1
 refine ⟨fun e=>by simp [valS,errIf,hs] at e,fun _=>⟨fun e=>by simp [hc] at e,fun _=>⟨okItms_of hs.2.2.2.1,by omega,?_⟩⟩⟩
 rw [without_zero hs.2.2.2.1]
 refine ⟨⟨hl0.2,0,rfl,by omega,rfl⟩,?_⟩
 rintro ⟨_,n,l⟩ ⟨hn,k,rfl,hk,hf⟩
 simp only [Int.toNat_natCast] at *
 have st:=chg_ok (c:=c.take k) hs.2.2.2.1 hl0.1 (fun w hw=>hco w (List.mem_of_mem_take hw))
 rw [←hf] at st
 simp only at st
 refine ⟨fun h1=>⟨by omega,by omega,fun w hw=>?_⟩,fun h1=>?_⟩
 ·have hwo:=hco w (mem_of_get hw)
  have hsl:=srcs_len hwo.2
  have hto:PSame (toldF l w.grp) ⟨w.mode,w.srcs⟩=true↔told l w.grp=(w.mode,w.srcs):=by
   simp only [FSame,toldF,decide_eq_true_eq,flt_eq,Prod.ext_iff]
  have nx:(c.take (k+1)).foldl chg1 (s.last,s.items)=chg1 (n,l) w:=by
   rw [take_succ hw,List.foldl_append,←hf];rfl
  have tl:c.foldl chg1 (s.last,s.items)=(c.drop (k+1)).foldl chg1 (chg1 (n,l) w):=by
   rw [←nx,←List.foldl_append,List.take_append_drop]
  rw [W_succ (n:=c.length) (by omega) (by omega)]
  refine ⟨fun e=>⟨⟨hn,k+1,rfl,by omega,?_⟩,by omega⟩,fun e=>⟨fun e2=>?_,fun e2=>?_⟩⟩
  ·rw [nx,chg1,if_pos (hto.mp e)]
  ·have e2:n=1000000:=by simpa using e2
   have h3:chg1 (n,l) w=(n+1,put1 l ⟨n+1,w.grp,w.mode,w.srcs⟩):=by
    rw [chg1,if_neg (fun h=>by rw [hto.mpr h] at e;cases e)]
   have g:=chg1_ok (n:=n) (l:=l) (w:=w) st.1 st.2.2.2 hwo
   have:=(chg_ok (c:=c.drop (k+1)) g.1 g.2.2.2 (fun w hw=>hco w (List.mem_of_mem_drop hw))).2.1.1
   rw [fin,if_pos]
   ·rfl
   ·rw [tl]
    rw [h3] at this ⊢
    simp only at this
    omega
  ·have e2:¬n=1000000:=by simpa using e2
   have h3:chg1 (n,l) w=(n+1,put1 l ⟨n+1,w.grp,w.mode,w.srcs⟩):=by
    rw [chg1,if_neg (fun h=>by rw [hto.mpr h] at e;cases e)]
   have hok:=okItms_of st.1
   have hwl:(Go.Proofs.YtgnogboljobocaaGreatDoor.without w.grp l).length≤900000:=Nat.le_trans (List.length_filter_le _ _) hok.1
   rw [W_eq (by omega)]
   refine ⟨hok,by show w.srcs.length≤_;omega,by omega,⟨by omega,k+1,rfl,by omega,?_⟩,by omega⟩
   rw [nx,h3];rfl
 ·have hk:k=c.length:=by omega
  subst hk
  rw [List.take_length] at hf
  rw [fin,←hf,if_neg (by simp only;omega)]
def change_c(s:Spk)(changes:(List Wnt)):PC Tryz.prog:=⟨119,[(.a [.k,.k,.k,(.s 4),(.s 3)]),(.s 3)],[.agg [.int s.router,.int s.epoch,.int s.last,.sl 4 (s.items.map Itm.v) false,.sl 3 (s.peers.map Per.v) false],.sl 3 (changes.map Wnt.v) false],changeF_e (change s changes),PSpec.of_ok fun ok=>(changeF_p s changes ok).elim fun I0 h=>h.elim fun m0 h=>mxP_of (sh:=(.a [(.a [.k,.k,.k,(.s 4),(.s 3)]),.k])) (enc:=changeF_e) (a:=((.callP (valS_c s)
 (.br 128 (.ret ((⟨0,0,0,[],[]⟩:Spk),valS s))
 (.callP (applyW_c [] changes)
 (.br 272 (.ret ((⟨0,0,0,[],[]⟩:Spk),(applyW [] changes).2))
 (.req 304 (okItms s.items) fun h1 =>
 (.callH [] (copied_h s.items 0 h1)
 (.req 352 (s.peers.length≤1000000) fun h2 =>
 (.callH [] (cloneP_h s.peers h2)
 (.cmd (.frzE 304 ((without 0 s.items).map Itm.v) (pureBL_map (fun _=>rfl) (without 0 s.items))) (.cmd (.frzE 352 (s.peers.map Per.v) (pureBL_map (fun _=>rfl) s.peers)) (.loop 0 (changeF_n0 s changes) (I0) (m0) ((0,s.last,without 0 s.items):Int×Int×(List Itm)) [0,16] fun (t0:Int×Int×(List Itm)) =>
 (.br 18 (.el 18 Wnt.v changes fun x3 =>
 (.callP (toldF_c t0.2.2 x3.grp)
 (.callP (PSame_c (toldF t0.2.2 x3.grp) (⟨x3.mode,x3.srcs⟩:Flt))
 (.br 210 (.back 0 ((W (t0.1+1),t0.2.1,t0.2.2):Int×Int×(List Itm)) [0,1])
 (.br 258 (.ret ((⟨0,0,0,[],[]⟩:Spk),3))
 (.req 402 (okItms t0.2.2) fun h4 =>
 (.callH [] (copied_h t0.2.2 x3.grp h4)
 (.req 514 ((⟨x3.mode,x3.srcs⟩:Flt).srcs.length≤1000000) fun h5 =>
 (.callP (filtered_c (⟨x3.mode,x3.srcs⟩:Flt) h5)
 (.app 562 Itm.v (without x3.grp t0.2.2) [(⟨W (t0.2.1+1),x3.grp,x3.mode,x3.srcs⟩:Itm)]
 (.cmd (.frzE 562 (((without x3.grp t0.2.2)++[(⟨W (t0.2.1+1),x3.grp,x3.mode,x3.srcs⟩:Itm)]).map Itm.v) (pureBL_map (fun _=>rfl) ((without x3.grp t0.2.2)++[(⟨W (t0.2.1+1),x3.grp,x3.mode,x3.srcs⟩:Itm)]))) (.back 0 ((W (t0.1+1),W (t0.2.1+1),(without x3.grp t0.2.2)++[(⟨W (t0.2.1+1),x3.grp,x3.mode,x3.srcs⟩:Itm)]):Int×Int×(List Itm)) [0,1]))))))))))))
 (.ret ((⟨s.router,s.epoch,t0.2.1,t0.2.2,s.peers⟩:Spk),0)))))))))))))):An Tryz.prog changeF_s (Spk×Int))) h (by kernel_rfl) (AV.pureB_ok rfl),fnB_ok (by kernel_rfl)⟩
structure ES where
  e:Int
  a:Spk
  l:Lsn
  air:List Sig
  p:Nat
def es0(p:Nat):ES:=⟨0,⟨1,1,0,[],[⟨2,0,0⟩]⟩,⟨2,1,[]⟩,[],p⟩
end Go.Proofs.YtgnogboljobocaaGreatDoor
namespace Go.Am
open Go.Proofs Go.Shelf Go.RowKit Go.Lib Go.Sort
theorem flatL_eq{α:Type}[Inhabited α](enc:α→List Value)(k:Nat)(k0:0<k)(hk:∀x,(enc x).length=k):∀l:List α,
  (List.range (l.length * k)).map (fun t=>(enc l[t / k]!)[t % k]!)=l.flatMap enc
 | []=>by simp
 | x::l=>by
  have ih:=flatL_eq enc k k0 hk l
  rw [List.flatMap_cons,←ih,List.length_cons,Nat.succ_mul,Nat.add_comm,List.range_add,List.map_append,List.map_map]
  congr 1
  ·refine List.ext_getElem (by simp [hk]) fun i h1 h2=>?_
   have hi:i<k:=by simpa using h1
   simp [Nat.div_eq_of_lt hi,Nat.mod_eq_of_lt hi,h2]
  ·refine List.map_congr_left fun t _=>?_
   simp [Function.comp,Nat.add_div_left t k0]
theorem flatK_list{α:Type}[Inhabited α](enc:α→List Value)(k:Nat)(k0:0<k)(hk:∀x,(enc x).length=k)(d:Array α):(flatK enc k d).toList=d.toList.flatMap enc:=by
 rw [←flatL_eq enc k k0 hk d.toList]
 unfold flatK
 simp [List.getElem!_eq_getElem?_getD,Array.getElem!_eq_getD,Array.getD_eq_getD_getElem?]
section
variable {T : Type} (key : T → Int) (k : Nat)
structure SE where
  x:T
  cs:List Value
  ok:cs.length=k∧(∀u∈cs,u.oneCell'=true)∧∃r,cs=.int .i64 (key x)::r
variable {key k}
theorem SE.list{w:World}{A:Nat→Prop}{μ:Mu}{v:T→AV}(hv:∀x,∃cs,v x=.agg (.int (key x)::cs)) :
  ∀{l:List T} {vs:List Value},RVL w A (l.map v) μ vs→(∀u∈vs,u.cells.size=k)→∃ds:List (SE key k),ds.map SE.x=l∧vs=ds.map (fun p=>.agg p.cs.toArray)∧∀p∈ds,RV w A (v p.x) μ (.agg p.cs.toArray)
 | [],vs,h,_=>⟨[],rfl,h,by simp⟩
 | x::l,_,⟨u,vs,rfl,h1,h2⟩,hs=>by
  obtain ⟨ds,e1,e2,e3⟩:=SE.list hv h2 fun u hu=>hs u (List.mem_cons_of_mem _ hu)
  obtain ⟨cs,hc⟩:=hv x
  have h1':=h1
  rw [hc] at h1
  obtain ⟨us,rfl,g1,g2⟩:=h1
  obtain ⟨u0,us',rfl,g3,g4⟩:=g1
  obtain ⟨rfl,g5⟩:=g3
  have hl:(Value.int .i64 (key x)::us').length=k:=by
   have:=hs _ (List.mem_cons_self ..)
   simpa [Value.cells] using this
  exact ⟨⟨x,.int .i64 (key x)::us',hl,g2,us',rfl⟩::ds,by rw [List.map_cons,e1],by rw [List.map_cons,e2],fun p hp=>by
   rcases List.mem_cons.mp hp with rfl|hp
   ·exact h1'
   ·exact e3 p hp⟩
theorem SE.rvl{w:World}{A:Nat→Prop}{μ:Mu}{v:T→AV}:∀{ds:List (SE key k)},(∀p∈ds,RV w A (v p.x) μ (.agg p.cs.toArray))→RVL w A ((ds.map SE.x).map v) μ (ds.map fun p=>.agg p.cs.toArray)
 | [],_=>rfl
 | p::ds,h=>⟨_,_,rfl,h p (List.mem_cons_self ..),SE.rvl fun q hq=>h q (List.mem_cons_of_mem _ hq)⟩
end
theorem swo_key{T:Type}(key:T→Int):SWO (ltOf fun x y:T=>Lib.compareInt (key x) (key y)):=by
 have e:∀x y:T,ltOf (fun x y:T=>Lib.compareInt (key x) (key y)) x y=decide (key x<key y):=fun x y=>by
  unfold ltOf Lib.compareInt
  by_cases h1:key x<key y
  ·simp [h1]
  ·by_cases h2:key y<key x<;>simp [h1,h2]
 refine ⟨fun x=>?_,fun x y z h1 h2=>?_,fun x y z h1 h2=>?_⟩
 ·rw [e];simp
 ·rw [e] at *;simp at *;omega
 ·rw [e] at *;simp at *;omega
theorem lt_key{T:Type}(key:T→Int)(x y:T):ltOf (fun x y:T=>Lib.compareInt (key x) (key y)) x y=decide (key x<key y):=by
 unfold ltOf Lib.compareInt
 by_cases h1:key x<key y
 ·simp [h1]
 ·by_cases h2:key y<key x<;>simp [h1,h2]
theorem sorted_unique{T:Type}{key:T→Int}:∀{a b:List T},a.Perm b→a.Pairwise (fun x y=>key x≤key y)→b.Pairwise (fun x y=>key x<key y)→a=b
 | [],b,h,_,_=>(List.nil_perm.mp h).symm
 | x::a,[],h,_,_=>absurd h.length_eq (by simp)
 | x::a,y::b,h,h1,h2=>by
  have hxy:x=y:=by
   have m1:=h.mem_iff.mp (List.mem_cons_self (a:=x) (l:=a))
   have m2:=h.mem_iff.mpr (List.mem_cons_self (a:=y) (l:=b))
   rcases List.mem_cons.mp m1 with e|m1
   ·exact e
   rcases List.mem_cons.mp m2 with e|m2
   ·exact e.symm
   have g1:=(List.pairwise_cons.mp h1).1 y m2
   have g2:=(List.pairwise_cons.mp h2).1 x m1
   omega
  subst hxy
  rw [sorted_unique ((List.perm_cons _).mp h) (List.pairwise_cons.mp h1).2 (List.pairwise_cons.mp h2).2]
theorem heap_sort{α:Type}[Inhabited α]{enc:α→List Value}{k:Nat}{w:World}{blk n:Nat}{d:Array α}{os:Array Obj}{C:Array Value}{ty:TypeId}(h:w.heap[blk]?=some (.cells C ty (0,0))) :
  (sortWorldK enc k w blk 0 n d os).heap[blk]?=some (.cells (putCells id 0 (flatK enc k d) C) ty (0,0))∧(∀b,b<w.heap.size→b≠blk→(sortWorldK enc k w blk 0 n d os).heap[b]?=w.heap[b]?) ∧
  w.heap.size≤(sortWorldK enc k w blk 0 n d os).heap.size:=by
 have hb:blk<w.heap.size:=(Array.getElem?_eq_some_iff.mp h).1
 have e:(sortWorldK enc k w blk 0 n d os).heap=w.heap.modify blk (onCells (putCells id 0 (flatK enc k d)))++os:=rfl
 rw [e]
 refine ⟨?_,fun b h1 h2=>?_,by simp⟩
 ·rw [Array.getElem?_append_left (by simpa using hb),Array.getElem?_modify,if_pos rfl,h];rfl
 ·rw [Array.getElem?_append_left (by simpa using h1),Array.getElem?_modify,if_neg (Ne.symm h2)]
theorem put_take{F C:Array Value}(h:F.size≤C.size):(putCells id 0 F C).toList.take F.size=F.toList∧(putCells id 0 F C).size=C.size:=by
 have hs:(putCells id 0 F C).size=C.size:=by simp [putCells]
 refine ⟨List.ext_getElem (by simp [hs];omega) fun i h1 h2=>?_,hs⟩
 have hi:i<F.size:=by simpa using h2
 simp [putCells,hi]
theorem sort_hspec{P:Program}{ρ:Ren}(L:SlLaysF0.n6 P ρ){T:Type}(v:T→AV)(key:T→Int)(k:Nat)(k0:0<k)
  (aE:∀w,(isAgg (ρ.t 24)).run P w=.ok true w) (zE:∀w,(Go.sizeOf (ρ.t 24)).run P w=.ok k w) (hv:∀x,∃cs,v x=.agg (.int (key x)::cs))
  (g:Nat) (eg:∀args w,(callFunc g args).run P w=.ok (.enter g args) w)
  (hcmp:∀(a b:Int) (xs ys:List Value) (w:World),xs.length+1=k→ys.length+1=k→(∀u∈xs,u.oneCell'=true)→(∀u∈ys,u.oneCell'=true) →
   Calls P g #[.agg (Value.int .i64 a::xs).toArray,.agg (Value.int .i64 b::ys).toArray] w fun e w'=>e=.returned (.int .i64 (Lib.compareInt a b))∧∃q os',w'=grow (w.drewN q) os')
  (l l':List T) (hp:l'.Perm l) (hs:l'.Pairwise fun x y=>key x<key y) (hl:l.length≤1000000) :
  HSpec P (ρ.f 6) [.vec 0,.func g []] [.vec k (l.map v)] (.tup []) [some (.vec k (l'.map v))]:=by
 intro w A μ cargs hH hmu hargs
 obtain ⟨c0,_,rfl,h0,c1,_,rfl,h1,rfl⟩:=hargs
 obtain ⟨hd,hm,rfl⟩:=h0
 obtain ⟨_,rfl,rfl⟩:=h1
 obtain ⟨hd',hm',hb,hA⟩:=hH.blk 0 _ rfl
 rw [hm] at hm';cases hm'
 obtain ⟨hk,hb⟩:=hb
 have none_:∀p cap,hd.val=.slice p 0 cap→l=[]→Calls P (ρ.f 6) [hd.val,Value.func (.func g) #[] ([]:List Value).toArray].toArray w fun e w'=>∃v_1 A' μ',e=.returned v_1∧RV w' A' (.tup []) μ' v_1∧HeapOk P w' A' μ' (hpOf [some (.vec k (l'.map v))])∧MuLe μ μ'∧Ext (ownOf μ (hpOf ([Blk.vec k (l.map v)].map some))) w w' ∧
   (∀b,A b→A' b)∧(∀b,A' b→A b∨ownOf μ (hpOf ([Blk.vec k (l.map v)].map some)) b∨w.heap.size≤b) ∧
   (∀b,ownOf μ' (hpOf [some (.vec k (l'.map v))]) b→ownOf μ (hpOf ([Blk.vec k (l.map v)].map some)) b∨w.heap.size≤b):=by
  intro p cap e0 e1
  subst e1
  obtain rfl:=List.perm_nil.mp hp
  rw [e0]
  refine (AnyF.slices_SortFunc_none L p cap (.func (.func g) #[] #[]) w).mono ?_
  rintro e w' ⟨rfl,rfl⟩
  exact ⟨_,A,μ,rfl,⟨[],rfl,rfl⟩,hH,MuLe.refl _,⟨rfl,rfl,rfl,Nat.le_refl _,fun _ _ _=>rfl⟩,fun b h=>h,fun b h=>.inl h,fun b h=>.inl h⟩
 rcases hb with ⟨he,ha⟩|⟨he,hlen,hle,hcap,C,ty,vs,hheap,hrvl,hsol,hsz,hC,htake⟩
 ·obtain ⟨a,ha⟩:=Option.isSome_iff_exists.mp ha
  exact none_ a 0 (by unfold Hd.val;rw [ha]) (by simpa using he)
 obtain ⟨ds,e1,rfl,e3⟩:=SE.list hv hrvl hsz
 have hval:hd.val=.slice (some ⟨hd.blk,0,none⟩) hd.len hd.cap:=by unfold Hd.val;rw [he]
 have hlen':hd.len=ds.length:=by rw [hlen,←e1];simp
 match hds:ds with
 | []=>exact none_ _ _ (by rw [hval,hlen'];rfl) (by rw [←e1];rfl)
 | p0::ds' =>
  rw [←hds] at e1 e3 htake hlen' hrvl hsz
  haveI:Inhabited (SE key k):=⟨p0⟩
  obtain ⟨nA,hblk⟩:=hA he
  have hk1:∀x:SE key k,x.cs.length=k:=fun x=>x.ok.1
  have hC':C.toList.take (ds.length * k)=(flatK SE.cs k ds.toArray).toList:=by
   rw [flatK_list _ _ k0 hk1,←hlen',htake,List.flatMap_map]
   rfl
  have hsz':ds.length * k≤C.size:=by rw [←hlen'];exact Nat.le_trans (Nat.mul_le_mul_right _ hle) hC
  have hHK:HoldsK SE.cs k w hd.blk 0 ds.toArray:=by
   intro j hj
   have hj':j<ds.length * k:=by simpa using hj
   refine ⟨?_,by simp [World.frozen?,hheap]⟩
   have:(C.toList.take (ds.length * k))[j]?=(flatK SE.cs k ds.toArray).toList[j]?:=by rw [hC']
   rw [List.getElem?_take,if_pos hj'] at this
   simp only [World.cell?,hheap,Nat.zero_add,Option.isSome_none,Bool.false_eq_true,if_false,id]
   rw [getElem!_pos _ j hj,←Array.getElem?_eq_getElem hj]
   simpa using this
  have key_:=AnyQ.slices_SortFunc L k aE zE SE.cs hk1 (fun x=>x.ok.2.1) (fun x y=>Lib.compareInt (key x.x) (key y.x)) (swo_key fun p:SE key k=>key p.x) g #[] hd.blk 0 hd.cap ds.toArray w eg
   (fun m os dk _ x y=>by
    obtain ⟨rx,hx⟩:=x.ok.2.2
    obtain ⟨ry,hy⟩:=y.ok.2.2
    have lx:=x.ok.1;have ly:=y.ok.1
    have ox:=x.ok.2.1;have oy:=y.ok.2.1
    have ex:x.cs=.int .i64 (key x.x)::rx:=hx
    have ey:y.cs=.int .i64 (key y.x)::ry:=hy
    rw [hx] at lx ox;rw [hy] at ly oy
    rw [ex,ey,Array.append_empty]
    exact hcmp _ _ rx ry _ lx ly (fun u hu=>ox u (List.mem_cons_of_mem _ hu)) (fun u hu=>oy u (List.mem_cons_of_mem _ hu))) hHK hblk (by
    have:ds.length=l.length:=by rw [←e1];simp
    show ds.length<_
    omega)
  rw [hval,hlen']
  refine key_.mono ?_
  rintro e w' ⟨rfl,d',n,os,⟨ps,-,pp⟩,hsrt,rfl⟩
  have pp:d'.toList.Perm ds:=by
   have q1:d'.extract 0 ds.toArray.size=d':=by rw [←ps];simp
   have q2:ds.toArray.extract 0 ds.toArray.size=ds.toArray:=by simp
   rw [q1,q2] at pp
   simpa using pp
  have el:d'.toList.map SE.x=l':=by
   refine sorted_unique ((pp.map _).trans ?_) ?_ hs
   ·rw [e1];exact hp.symm
   ·rw [List.pairwise_map,List.pairwise_iff_getElem]
    intro i j hi hj hij
    have hi':i<d'.size:=by simpa using hi
    have hj':j<d'.size:=by simpa using hj
    have:=hsrt i j (Nat.zero_le _) hij (by rw [←ps];exact hj')
    rw [lt_key (fun p:SE key k=>key p.x),getElem!_pos _ j hj',getElem!_pos _ i hi'] at this
    simpa using this
  have len':d'.size=ds.length:=by rw [ps];rfl
  obtain ⟨hp1,hp2,hp3⟩:=heap_sort (enc:=SE.cs) (k:=k) (n:=n) (d:=d') (os:=os) hheap
  have hF:(flatK SE.cs k d').size≤C.size:=by rw [size_flatK,len'];exact hsz'
  obtain ⟨q1,q2⟩:=put_take hF
  have same:Same A w (sortWorldK SE.cs k w hd.blk 0 n d' os):=fun b hb=>hp2 b (hH.lt b hb) (fun e=>nA (e ▸ hb))
  have own:ownOf μ (hpOf ([Blk.vec k (l.map v)].map some)) hd.blk:=⟨0,_,hd,rfl,hm,he,rfl⟩
  refine ⟨_,A,μ,rfl,⟨[],rfl,rfl⟩,⟨fun b x hx=>?_,fun b b' x x' hd1 hd2 hx hx' _ _ _ _ _=>?_,hH.lt.mono same (fun _ h=>h) fun b hb=>Nat.lt_of_lt_of_le (hH.lt b hb) hp3⟩,MuLe.refl _,
   ⟨rfl,rfl,rfl,hp3,fun b h1 h2=>hp2 b h1 fun e=>h2 (e ▸ own)⟩,fun _ h=>h,fun _ h=>.inl h,?_⟩
  ·have hx0:b=0:=by
    cases b with
    | zero=>rfl
    | succ b=>simp [hpOf] at hx
   subst hx0
   have hx:some (Blk.vec k (l'.map v))=some x:=hx
   cases hx
   refine ⟨hd,hm,⟨hk,.inr ⟨he,?_,hle,hcap,_,ty,d'.toList.map (fun p=>.agg p.cs.toArray),hp1,?_,?_,?_,?_,?_⟩⟩,fun _=>⟨nA,Nat.lt_of_lt_of_le hblk hp3⟩⟩
   ·rw [hlen',←el];simp [len']
   ·rw [←el]
    exact RVL.mono same (fun _ h=>h) _ (MuLe.refl _) (SE.rvl fun p hp=>e3 p (pp.mem_iff.mp hp))
   ·intro x hx
    obtain ⟨y,_,rfl⟩:=List.mem_map.mp hx
    obtain ⟨cs,hc⟩:=hv y
    rw [hc];rfl
   ·intro u hu
    obtain ⟨p,_,rfl⟩:=List.mem_map.mp hu
    simpa [Value.cells] using hk1 p
   ·rw [q2];exact hC
   ·have:=flatK_list SE.cs k k0 hk1 d'
    rw [size_flatK,len',←hlen'] at q1
    rw [q1,this,List.flatMap_map]
    rfl
  ·have z:∀{b x},hpOf [some (Blk.vec k (l'.map v))] b=some x→b=0:=fun {b x} h=>by
    cases b with
    | zero=>rfl
    | succ b=>simp [hpOf] at h
   rw [z hx,z hx']
  ·rintro b ⟨b',x,hd1,hx,hm1,he1,rfl⟩
   have hx0:b'=0:=by
    cases b' with
    | zero=>rfl
    | succ b=>simp [hpOf] at hx
   subst hx0
   rw [hm] at hm1;cases hm1
   exact .inl own
end Go.Am
