/- Texts joined: V5 Mx7. -/
import Derived.Shelf.SlSortCmp.NoneTotal
import Derived.Shelf.SlSortCmp.WholeK
import Derived.Test.YtgnogboljobocaaGreatDoorQH5
namespace Go.Proofs.YtgnogboljobocaaGreatDoor
open Go Go.Am
set_option linter.unusedVariables false
set_option linter.unusedSimpArgs false
theorem change_val{s:Spk}{c:List Wnt}(h:(change s c).2=0):spkOk s∧wErr true c=0∧¬1000000<(c.foldl chg1 (s.last,s.items)).1 ∧
    change s c=(⟨s.router,s.epoch,(c.foldl chg1 (s.last,s.items)).1,(c.foldl chg1 (s.last,s.items)).2,s.peers⟩,0):=by
  unfold change at h ⊢
  by_cases h1:spkOk s
  case neg=>rw [if_pos h1] at h;simp at h
  by_cases h2:wErr true c=0
  case neg=>rw [if_neg (not_not_intro h1),if_pos h2] at h;exact absurd h h2
  by_cases h3:1000000<(c.foldl chg1 (s.last,s.items)).1
  case pos=>rw [if_neg (not_not_intro h1),if_neg (not_not_intro h2),if_pos h3] at h;simp at h
  rw [if_neg (not_not_intro h1),if_neg (not_not_intro h2),if_neg h3]
  exact ⟨h1,h2,h3,rfl⟩
theorem change_spkOk{s:Spk}{c:List Wnt}(h:(change s c).2=0):spkOk (change s c).1:=by
  obtain ⟨h1,h2,h3,e⟩:=change_val h
  rw [e]
  obtain ⟨p1,p2,p3,p4,p5,p6,p7⟩:=h1
  obtain ⟨q1,q2,q3,q4⟩:=chg_ok p4 p3.1 (chgOk_of h2)
  refine ⟨p1,p2,⟨q4,by simp only;omega⟩,q1,p5,fun p hp=>?_,p7⟩
  obtain ⟨r1,r2,r3,r4⟩:=p6 p hp
  exact ⟨r1,r2,r3,r4.1,by have:=q2.le;simp only;omega⟩
theorem restart_val{s:Spk}{w:List Wnt}(h:(restart s w).2=0):spkOk s∧wErr false w=0∧s.epoch≠1000000 ∧
    restart s w=(⟨s.router,s.epoch+1,w.length,w.mapIdx wItm,s.peers.map fun p=>⟨p.router,0,0⟩⟩,0):=by
  unfold restart at h ⊢
  by_cases h1:spkOk s
  case neg=>rw [if_pos h1] at h;simp at h
  by_cases h2:wErr false w=0
  case neg=>rw [if_neg (not_not_intro h1),if_pos h2] at h;exact absurd h h2
  by_cases h3:s.epoch=1000000
  case pos=>rw [if_neg (not_not_intro h1),if_neg (not_not_intro h2),if_pos h3] at h;simp at h
  rw [if_neg (not_not_intro h1),if_neg (not_not_intro h2),if_neg h3]
  exact ⟨h1,h2,h3,rfl⟩
theorem restart_spkOk{s:Spk}{w:List Wnt}(h:(restart s w).2=0):spkOk (restart s w).1:=by
  obtain ⟨h1,h2,h3,e⟩:=restart_val h
  rw [e]
  obtain ⟨p1,p2,p3,p4,p5,p6,p7⟩:=h1
  obtain ⟨w1,_,_,_,w5⟩:=wErr_zero.mp h2
  refine ⟨p1,⟨by simp only;omega,by simp only;omega⟩,⟨by simp only;omega,by simp only;omega⟩,restart_items (chgOk_of h2) w5,by simpa using p5,fun q hq=>?_,?_⟩
  · obtain ⟨q',hq',rfl⟩:=List.mem_map.mp hq
    obtain ⟨r1,r2,_,_⟩:=p6 q' hq'
    exact ⟨r1,r2,⟨by simp,by simp⟩,by simp,by simp⟩
  · rw [List.pairwise_map];exact p7
end Go.Proofs.YtgnogboljobocaaGreatDoor

namespace Go.Am
open Go.Proofs Go.Shelf Go.RowKit Go.Lib Go.Sort
set_option linter.unusedVariables false
set_option linter.unusedSimpArgs false
theorem flatL_eq{α:Type}[Inhabited α](enc:α→List Value)(k:Nat)(k0:0<k)(hk:∀x,(enc x).length=k):∀l:List α,
    (List.range (l.length * k)).map (fun t=>(enc l[t / k]!)[t % k]!)=l.flatMap enc
  | []=>by simp
  | x::l=>by
    have ih:=flatL_eq enc k k0 hk l
    rw [List.flatMap_cons,←ih,List.length_cons,Nat.succ_mul,Nat.add_comm,List.range_add,List.map_append,List.map_map]
    congr 1
    · refine List.ext_getElem (by simp [hk]) fun i h1 h2=>?_
      have hi:i<k:=by simpa using h1
      simp [Nat.div_eq_of_lt hi,Nat.mod_eq_of_lt hi,h2]
    · refine List.map_congr_left fun t _=>?_
      simp [Function.comp,Nat.add_div_left t k0]
theorem flatK_list{α:Type}[Inhabited α](enc:α→List Value)(k:Nat)(k0:0<k)(hk:∀x,(enc x).length=k)(d:Array α):(flatK enc k d).toList=d.toList.flatMap enc:=by
  rw [←flatL_eq enc k k0 hk d.toList]
  unfold flatK
  simp [List.getElem!_eq_getElem?_getD,Array.getElem!_eq_getD,Array.getD_eq_getD_getElem?]
section
variable {T : Type} (key : T → Int) (k : Nat)
structure SE where
  x:T
  cs:List Value
  ok:cs.length=k∧(∀u∈cs,u.oneCell'=true)∧∃r,cs=.int .i64 (key x)::r
variable {key k}
theorem SE.list{w:World}{A:Nat→Prop}{μ:Mu}{v:T→AV}(hv:∀x,∃cs,v x=.agg (.int (key x)::cs)) :
    ∀{l:List T} {vs:List Value},RVL w A (l.map v) μ vs→(∀u∈vs,u.cells.size=k)→∃ds:List (SE key k),ds.map SE.x=l∧vs=ds.map (fun p=>.agg p.cs.toArray)∧∀p∈ds,RV w A (v p.x) μ (.agg p.cs.toArray)
  | [],vs,h,_=>⟨[],rfl,h,by simp⟩
  | x::l,_,⟨u,vs,rfl,h1,h2⟩,hs=>by
    obtain ⟨ds,e1,e2,e3⟩:=SE.list hv h2 fun u hu=>hs u (List.mem_cons_of_mem _ hu)
    obtain ⟨cs,hc⟩:=hv x
    have h1':=h1
    rw [hc] at h1
    obtain ⟨us,rfl,g1,g2⟩:=h1
    obtain ⟨u0,us',rfl,g3,g4⟩:=g1
    obtain ⟨rfl,g5⟩:=g3
    have hl:(Value.int .i64 (key x)::us').length=k:=by
      have:=hs _ (List.mem_cons_self ..)
      simpa [Value.cells] using this
    exact ⟨⟨x,.int .i64 (key x)::us',hl,g2,us',rfl⟩::ds,by rw [List.map_cons,e1],by rw [List.map_cons,e2],fun p hp=>by
      rcases List.mem_cons.mp hp with rfl | hp
      · exact h1'
      · exact e3 p hp⟩
theorem SE.rvl{w:World}{A:Nat→Prop}{μ:Mu}{v:T→AV}:∀{ds:List (SE key k)},(∀p∈ds,RV w A (v p.x) μ (.agg p.cs.toArray))→RVL w A ((ds.map SE.x).map v) μ (ds.map fun p=>.agg p.cs.toArray)
  | [],_=>rfl
  | p::ds,h=>⟨_,_,rfl,h p (List.mem_cons_self ..),SE.rvl fun q hq=>h q (List.mem_cons_of_mem _ hq)⟩
end
theorem swo_key{T:Type}(key:T→Int):SWO (ltOf fun x y:T=>Lib.compareInt (key x) (key y)):=by
  have e:∀x y:T,ltOf (fun x y:T=>Lib.compareInt (key x) (key y)) x y=decide (key x<key y):=fun x y=>by
    unfold ltOf Lib.compareInt
    by_cases h1:key x<key y
    · simp [h1]
    · by_cases h2:key y<key x<;>simp [h1,h2]
  refine ⟨fun x=>?_,fun x y z h1 h2=>?_,fun x y z h1 h2=>?_⟩
  · rw [e];simp
  · rw [e] at *;simp at *;omega
  · rw [e] at *;simp at *;omega
theorem lt_key{T:Type}(key:T→Int)(x y:T):ltOf (fun x y:T=>Lib.compareInt (key x) (key y)) x y=decide (key x<key y):=by
  unfold ltOf Lib.compareInt
  by_cases h1:key x<key y
  · simp [h1]
  · by_cases h2:key y<key x<;>simp [h1,h2]
theorem sorted_unique{T:Type}{key:T→Int}:∀{a b:List T},a.Perm b→a.Pairwise (fun x y=>key x≤key y)→b.Pairwise (fun x y=>key x<key y)→a=b
  | [],b,h,_,_=>(List.nil_perm.mp h).symm
  | x::a,[],h,_,_=>absurd h.length_eq (by simp)
  | x::a,y::b,h,h1,h2=>by
    have hxy:x=y:=by
      have m1:=h.mem_iff.mp (List.mem_cons_self (a:=x) (l:=a))
      have m2:=h.mem_iff.mpr (List.mem_cons_self (a:=y) (l:=b))
      rcases List.mem_cons.mp m1 with e | m1
      · exact e
      rcases List.mem_cons.mp m2 with e | m2
      · exact e.symm
      have g1:=(List.pairwise_cons.mp h1).1 y m2
      have g2:=(List.pairwise_cons.mp h2).1 x m1
      omega
    subst hxy
    rw [sorted_unique ((List.perm_cons _).mp h) (List.pairwise_cons.mp h1).2 (List.pairwise_cons.mp h2).2]
theorem heap_sort{α:Type}[Inhabited α]{enc:α→List Value}{k:Nat}{w:World}{blk n:Nat}{d:Array α}{os:Array Obj}{C:Array Value}{ty:TypeId}(h:w.heap[blk]?=some (.cells C ty (0,0))) :
    (sortWorldK enc k w blk 0 n d os).heap[blk]?=some (.cells (putCells id 0 (flatK enc k d) C) ty (0,0))∧(∀b,b<w.heap.size→b≠blk→(sortWorldK enc k w blk 0 n d os).heap[b]?=w.heap[b]?) ∧
    w.heap.size≤(sortWorldK enc k w blk 0 n d os).heap.size:=by
  have hb:blk<w.heap.size:=(Array.getElem?_eq_some_iff.mp h).1
  have e:(sortWorldK enc k w blk 0 n d os).heap=w.heap.modify blk (onCells (putCells id 0 (flatK enc k d)))++os:=rfl
  rw [e]
  refine ⟨?_,fun b h1 h2=>?_,by simp⟩
  · rw [Array.getElem?_append_left (by simpa using hb),Array.getElem?_modify,if_pos rfl,h];rfl
  · rw [Array.getElem?_append_left (by simpa using h1),Array.getElem?_modify,if_neg (Ne.symm h2)]
theorem put_take{F C:Array Value}(h:F.size≤C.size):(putCells id 0 F C).toList.take F.size=F.toList∧(putCells id 0 F C).size=C.size:=by
  have hs:(putCells id 0 F C).size=C.size:=by simp [putCells]
  refine ⟨List.ext_getElem (by simp [hs];omega) fun i h1 h2=>?_,hs⟩
  have hi:i<F.size:=by simpa using h2
  simp [putCells,hi]
theorem sort_hspec{P:Program}{ρ:Ren}(L:SlLaysF0.n6 P ρ){T:Type}(v:T→AV)(key:T→Int)(k:Nat)(k0:0<k)
    (aE:∀w,(isAgg (ρ.t 24)).run P w=.ok true w) (zE:∀w,(Go.sizeOf (ρ.t 24)).run P w=.ok k w) (hv:∀x,∃cs,v x=.agg (.int (key x)::cs))
    (g:Nat) (eg:∀args w,(callFunc g args).run P w=.ok (.enter g args) w)
    (hcmp:∀(a b:Int) (xs ys:List Value) (w:World),xs.length+1=k→ys.length+1=k→(∀u∈xs,u.oneCell'=true)→(∀u∈ys,u.oneCell'=true) →
      Calls P g #[.agg (Value.int .i64 a::xs).toArray,.agg (Value.int .i64 b::ys).toArray] w fun e w'=>e=.returned (.int .i64 (Lib.compareInt a b))∧∃q os',w'=grow (w.drewN q) os')
    (l l':List T) (hp:l'.Perm l) (hs:l'.Pairwise fun x y=>key x<key y) (hl:l.length≤1000000) :
    HSpec P (ρ.f 6) [.vec 0,.func g []] [.vec k (l.map v)] (.tup []) [some (.vec k (l'.map v))]:=by
  intro w A μ cargs hH hmu hargs
  obtain ⟨c0,_,rfl,h0,c1,_,rfl,h1,rfl⟩:=hargs
  obtain ⟨hd,hm,rfl⟩:=h0
  obtain ⟨_,rfl,rfl⟩:=h1
  obtain ⟨hd',hm',hb,hA⟩:=hH.blk 0 _ rfl
  rw [hm] at hm';cases hm'
  obtain ⟨hk,hb⟩:=hb
  have none_:∀p cap,hd.val=.slice p 0 cap→l=[]→Calls P (ρ.f 6) [hd.val,Value.func (.func g) #[] ([]:List Value).toArray].toArray w fun e w'=>∃v_1 A' μ',e=.returned v_1∧RV w' A' (.tup []) μ' v_1∧HeapOk P w' A' μ' (hpOf [some (.vec k (l'.map v))])∧MuLe μ μ'∧Ext (ownOf μ (hpOf ([Blk.vec k (l.map v)].map some))) w w' ∧
      (∀b,A b→A' b)∧(∀b,A' b→A b∨ownOf μ (hpOf ([Blk.vec k (l.map v)].map some)) b∨w.heap.size≤b) ∧
      (∀b,ownOf μ' (hpOf [some (.vec k (l'.map v))]) b→ownOf μ (hpOf ([Blk.vec k (l.map v)].map some)) b∨w.heap.size≤b):=by
    intro p cap e0 e1
    subst e1
    obtain rfl:=List.perm_nil.mp hp
    rw [e0]
    refine (AnyF.slices_SortFunc_none L p cap (.func (.func g) #[] #[]) w).mono ?_
    rintro e w' ⟨rfl,rfl⟩
    exact ⟨_,A,μ,rfl,⟨[],rfl,rfl⟩,hH,MuLe.refl _,⟨rfl,rfl,rfl,Nat.le_refl _,fun _ _ _=>rfl⟩,fun b h=>h,fun b h=>.inl h,fun b h=>.inl h⟩
  rcases hb with ⟨he,ha⟩ | ⟨he,hlen,hle,hcap,C,ty,vs,hheap,hrvl,hsol,hsz,hC,htake⟩
  · obtain ⟨a,ha⟩:=Option.isSome_iff_exists.mp ha
    exact none_ a 0 (by unfold Hd.val;rw [ha]) (by simpa using he)
  obtain ⟨ds,e1,rfl,e3⟩:=SE.list hv hrvl hsz
  have hval:hd.val=.slice (some ⟨hd.blk,0,none⟩) hd.len hd.cap:=by unfold Hd.val;rw [he]
  have hlen':hd.len=ds.length:=by rw [hlen,←e1];simp
  match hds:ds with
  | []=>exact none_ _ _ (by rw [hval,hlen'];rfl) (by rw [←e1];rfl)
  | p0::ds' =>
    rw [←hds] at e1 e3 htake hlen' hrvl hsz
    haveI:Inhabited (SE key k):=⟨p0⟩
    obtain ⟨nA,hblk⟩:=hA he
    have hk1:∀x:SE key k,x.cs.length=k:=fun x=>x.ok.1
    have hC':C.toList.take (ds.length * k)=(flatK SE.cs k ds.toArray).toList:=by
      rw [flatK_list _ _ k0 hk1,←hlen',htake,List.flatMap_map]
      rfl
    have hsz':ds.length * k≤C.size:=by rw [←hlen'];exact Nat.le_trans (Nat.mul_le_mul_right _ hle) hC
    have hHK:HoldsK SE.cs k w hd.blk 0 ds.toArray:=by
      intro j hj
      have hj':j<ds.length * k:=by simpa using hj
      refine ⟨?_,by simp [World.frozen?,hheap]⟩
      have:(C.toList.take (ds.length * k))[j]?=(flatK SE.cs k ds.toArray).toList[j]?:=by rw [hC']
      rw [List.getElem?_take,if_pos hj'] at this
      simp only [World.cell?,hheap,Nat.zero_add,Option.isSome_none,Bool.false_eq_true,if_false,id]
      rw [getElem!_pos _ j hj,←Array.getElem?_eq_getElem hj]
      simpa using this
    have key_:=AnyQ.slices_SortFunc L k aE zE SE.cs hk1 (fun x=>x.ok.2.1) (fun x y=>Lib.compareInt (key x.x) (key y.x)) (swo_key fun p:SE key k=>key p.x) g #[] hd.blk 0 hd.cap ds.toArray w eg
      (fun m os dk _ x y=>by
        obtain ⟨rx,hx⟩:=x.ok.2.2
        obtain ⟨ry,hy⟩:=y.ok.2.2
        have lx:=x.ok.1;have ly:=y.ok.1
        have ox:=x.ok.2.1;have oy:=y.ok.2.1
        have ex:x.cs=.int .i64 (key x.x)::rx:=hx
        have ey:y.cs=.int .i64 (key y.x)::ry:=hy
        rw [hx] at lx ox;rw [hy] at ly oy
        rw [ex,ey,Array.append_empty]
        exact hcmp _ _ rx ry _ lx ly (fun u hu=>ox u (List.mem_cons_of_mem _ hu)) (fun u hu=>oy u (List.mem_cons_of_mem _ hu))) hHK hblk (by
        have:ds.length=l.length:=by rw [←e1];simp
        show ds.length<_
        omega)
    rw [hval,hlen']
    refine key_.mono ?_
    rintro e w' ⟨rfl,d',n,os,⟨ps,-,pp⟩,hsrt,rfl⟩
    have pp:d'.toList.Perm ds:=by
      have q1:d'.extract 0 ds.toArray.size=d':=by rw [←ps];simp
      have q2:ds.toArray.extract 0 ds.toArray.size=ds.toArray:=by simp
      rw [q1,q2] at pp
      simpa using pp
    have el:d'.toList.map SE.x=l':=by
      refine sorted_unique ((pp.map _).trans ?_) ?_ hs
      · rw [e1];exact hp.symm
      · rw [List.pairwise_map,List.pairwise_iff_getElem]
        intro i j hi hj hij
        have hi':i<d'.size:=by simpa using hi
        have hj':j<d'.size:=by simpa using hj
        have:=hsrt i j (Nat.zero_le _) hij (by rw [←ps];exact hj')
        rw [lt_key (fun p:SE key k=>key p.x),getElem!_pos _ j hj',getElem!_pos _ i hi'] at this
        simpa using this
    have len':d'.size=ds.length:=by rw [ps];rfl
    obtain ⟨hp1,hp2,hp3⟩:=heap_sort (enc:=SE.cs) (k:=k) (n:=n) (d:=d') (os:=os) hheap
    have hF:(flatK SE.cs k d').size≤C.size:=by rw [size_flatK,len'];exact hsz'
    obtain ⟨q1,q2⟩:=put_take hF
    have same:Same A w (sortWorldK SE.cs k w hd.blk 0 n d' os):=fun b hb=>hp2 b (hH.lt b hb) (fun e=>nA (e ▸ hb))
    have own:ownOf μ (hpOf ([Blk.vec k (l.map v)].map some)) hd.blk:=⟨0,_,hd,rfl,hm,he,rfl⟩
    refine ⟨_,A,μ,rfl,⟨[],rfl,rfl⟩,⟨fun b x hx=>?_,fun b b' x x' hd1 hd2 hx hx' _ _ _ _ _=>?_,hH.lt.mono same (fun _ h=>h) fun b hb=>Nat.lt_of_lt_of_le (hH.lt b hb) hp3⟩,MuLe.refl _,
      ⟨rfl,rfl,rfl,hp3,fun b h1 h2=>hp2 b h1 fun e=>h2 (e ▸ own)⟩,fun _ h=>h,fun _ h=>.inl h,?_⟩
    · have hx0:b=0:=by
        cases b with
        | zero=>rfl
        | succ b=>simp [hpOf] at hx
      subst hx0
      have hx:some (Blk.vec k (l'.map v))=some x:=hx
      cases hx
      refine ⟨hd,hm,⟨hk,.inr ⟨he,?_,hle,hcap,_,ty,d'.toList.map (fun p=>.agg p.cs.toArray),hp1,?_,?_,?_,?_,?_⟩⟩,fun _=>⟨nA,Nat.lt_of_lt_of_le hblk hp3⟩⟩
      · rw [hlen',←el];simp [len']
      · rw [←el]
        exact RVL.mono same (fun _ h=>h) _ (MuLe.refl _) (SE.rvl fun p hp=>e3 p (pp.mem_iff.mp hp))
      · intro x hx
        obtain ⟨y,_,rfl⟩:=List.mem_map.mp hx
        obtain ⟨cs,hc⟩:=hv y
        rw [hc];rfl
      · intro u hu
        obtain ⟨p,_,rfl⟩:=List.mem_map.mp hu
        simpa [Value.cells] using hk1 p
      · rw [q2];exact hC
      · have:=flatK_list SE.cs k k0 hk1 d'
        rw [size_flatK,len',←hlen'] at q1
        rw [q1,this,List.flatMap_map]
        rfl
    · have z:∀{b x},hpOf [some (Blk.vec k (l'.map v))] b=some x→b=0:=fun {b x} h=>by
        cases b with
        | zero=>rfl
        | succ b=>simp [hpOf] at h
      rw [z hx,z hx']
    · rintro b ⟨b',x,hd1,hx,hm1,he1,rfl⟩
      have hx0:b'=0:=by
        cases b' with
        | zero=>rfl
        | succ b=>simp [hpOf] at hx
      subst hx0
      rw [hm] at hm1;cases hm1
      exact .inl own
end Go.Am
