/- Texts joined: Mx6 Mx8 G0 G1 G2 TP0 LP P0 TC1 TC2 ML SH1 TC3 TC4 FM SH2. -/
import Derived.Test.YtdbdndmdbbihbaaGreatDoorProg
import Derived.Test.YtdbdndmdbbihbaaGreatDoorQP3
set_option linter.unusedVariables false
set_option linter.unusedSimpArgs false
set_option linter.unusedSectionVars false
namespace Go.Am
def finS(k n:Nat)(res:List AR)(r:AV)(h':List (Option Blk)):X→S3→Prop
 | .exit _,_=>False
 | _,s=>∃s',av k n s s'∧(∃xs,jl s' res=some xs∧Sub (lG xs) r)∧∀b x,bF h' b=some x→s'.hp b=some x
theorem bc.introS{P:Program}{f:FuncId}{fn:Func}{af:AF}{args:List AV}{h:List Blk}{r:AV}{h':List (Option Blk)}(hf:P.funcs[f]?=some fn)(hc:Da P fn=some af)(hn:args.length≤af.n)
    (hw:AWP P h.length af.n af.body (finS h.length af.n af.res r h') (MB af.n args h)):bc P f args h r h':=by
  intro w A μ cargs hH hmu hargs
  unfold Da at hc
  split at hc
  case h_1=>cases hc
  rename_i body hb
  split at hc
  case h_1=>cases hc
  rename_i rs hrs
  cases hc
  simp only at hw hn
  have hl:=hargs.length
  let c:Ctx:=⟨w,dA μ (bF (h.map some)),A,μ⟩
  refine calls_of_wp hf hb ?_
  have H0:Rel P h.length c fn.ntmps (MB fn.ntmps args h) { tmps:=cargs.toArray++Array.replicate (fn.ntmps-cargs.toArray.size) undef,defers:=[] } w:=by
    refine⟨hmu,A,μ,λt=>?_,?_,rfl,λb x hx=>?_,hH.inj,hH.lt,λb hb=>⟨hmu b hb,?_⟩,⟨rfl,rfl,rfl,Nat.le_refl _,λ_ _ _=>rfl⟩,λ_ h=>h,λ_ h=>.inl h,bh.refl _⟩
    · show RV w A (args.getD t .unk) μ _
      by_cases ht:t<args.length
      · have e1:args[t]?=some (args.getD t .unk):=by simp[List.getD,List.getElem?_eq_getElem ht]
        obtain⟨v,e2,e3⟩:=hargs.get e1
        have:(cargs.toArray++Array.replicate (fn.ntmps-cargs.toArray.size) undef).getD t undef=v:=by
          have hlt:t<cargs.length:=by omega
          have hv:cargs[t]=v:=by rw[List.getElem?_eq_getElem hlt]at e2;exact Option.some.inj e2
          rw[Array.getD_eq_getD_getElem?,Array.getElem?_append_left (by simpa using hlt)]
          simp[hlt,hv]
        rw[this];exact e3
      · have:args.getD t .unk=.unk:=by simp[List.getD,List.getElem?_eq_none (Nat.le_of_not_lt ht)]
        rw[this];trivial
    · simp;omega
    · obtain⟨hd,e1,e2,e3⟩:=hH.blk b x hx
      exact⟨hd,e1,e2,λhe=>⟨(e3 he).1,(e3 he).2,.inl ⟨b,x,hd,hx,e1,he,rfl⟩⟩⟩
    · show bF (h.map some) b=none
      have hb':h.length≤b:=hb
      simp[bF,List.getElem?_eq_none,hb']
  refine wp_mono (hw _ rfl c _ w H0) ?_
  have fin:∀(s:S3) (a':Act) (w':World),(∃s',av h.length fn.ntmps s s'∧(∃xs,jl s' rs=some xs∧Sub (lG xs) r)∧∀b x,bF h' b=some x→s'.hp b=some x)→Rel P h.length c fn.ntmps s a' w' →
      a'.defers=[]∧∃v,(results fn a'.tmps).run P w'=.ok v w'∧(λe w'=>∃v A' μ',e=Ending.returned v∧RV w' A' r μ' v∧mU P w' A' μ' (bF h')∧bh μ μ'∧Ext (dA μ (bF (h.map some))) w w' ∧
        (∀b,A b→A' b)∧(∀b,A' b→A b∨dA μ (bF (h.map some)) b∨w.heap.size≤b)∧(∀b,dA μ' (bF h') b→dA μ (bF (h.map some)) b∨w.heap.size≤b)) (.returned v) w':=by
    rintro s a' w' ⟨s',hwk,⟨xs,hxs,hpk⟩,hsub⟩ hr
    obtain⟨h0,A',μ',H⟩:=hwk P c a' w' hr
    obtain⟨v,e1,e2⟩:=sk H hrs hxs
    have e2:=hpk _ _ _ _ e2
    refine⟨H.df,v,e1,v,A',μ',rfl,e2,?_,H.mu,?_,H.A0,H.A1,?_⟩
    · refine⟨λb x hx=>?_,λb b' x x' hd hd' hx hx'=>H.inj b b' x x' hd hd' (hsub b x hx) (hsub b' x' hx'),H.lt⟩
      obtain⟨hd,g1,g2,g3⟩:=H.blk b x (hsub b x hx)
      exact⟨hd,g1,g2,λhe=>⟨(g3 he).1,(g3 he).2.1⟩⟩
    · exact⟨H.keep.os,H.keep.tape,H.keep.output,H.keep.size,H.keep.block⟩
    · rintro b ⟨b',x,hd,hx,hm,he,rfl⟩
      obtain⟨hd',g1,g2,g3⟩:=H.blk b' x (hsub b' x hx)
      rw[hm]at g1;cases g1
      exact(g3 he).2.2
  intro e a' w' hq
  cases e with
  | normal=>obtain⟨s,h1,h2⟩:=hq;exact fin s a' w' h1 h2
  | ret=>obtain⟨s,h1,h2⟩:=hq;exact fin s a' w' h1 h2
  | exit id=>obtain⟨s,h1,h2⟩:=hq;exact h1.elim
  | _=>exact hq.elim
section
variable {P : Program} {Sf : Nat → Type} {T : Type}
def endP(res:List AR)(sh:Sh)(enc:T→AV)(r0:T):KX P Sf T
 | .exit _,_,_=>False
 | _,a,s=>jN 0 a s λa s=>match a with
  | .ret r=>match jl s res with
   | some xs=>aQ sh (lG xs)=enc r∧r=r0
   | none=>False
  | _=>False
def endH(k:Nat)(res:List AR)(sh:Sh)(enc:T→AV)(hB:T→List (Option Blk))(r0:T):KX P Sf T
 | .exit _,_,_=>False
 | _,a,s=>jN k a s λa s=>match a with
  | .retH r m bs=>nfP k s m bs (match jl m.st res with
   | some xs=>aQ sh (lG xs)=enc r∧(m.hs.map PB.blk).take (hB r).length=hB r∧r=r0
   | none=>False)
  | _=>False
def ze(P:Program)(f:FuncId):Option AF:=(P.funcs[f]?).bind (Da P)
def mxP(P:Program)(f:FuncId)(args:List AV)(sh:Sh)(enc:T→AV)(a:An P Sf T)(r0:T):Prop:=
 match ze P f with
 | some af=>cond (Nat.ble args.length af.n) (wpA 0 af.body a ⟨mb args 0,λ_=>none,0⟩ (endP af.res sh enc r0)) False
 | none=>False
def mxH(P:Program)(f:FuncId)(args:List AV)(h:List Blk)(sh:Sh)(enc:T→AV)(hB:T→List (Option Blk))(a:An P Sf T)(r0:T):Prop:=
 match ze P f with
 | some af=>cond (Nat.ble args.length af.n) (wpA h.length af.body a ⟨mb args 0,nB h 0,h.length⟩ (endH h.length af.res sh enc hB r0)) False
 | none=>False
theorem kC{f:FuncId}{af:AF}(h:ze P f=some af):∃fn,P.funcs[f]?=some fn∧Da P fn=some af:=Option.bind_eq_some_iff.mp h
theorem Sj{f:FuncId}{args:List AV}{sh:Sh}{enc:T→AV}{a:An P Sf T}{r0:T}(h:mxP P f args sh enc a r0)(hp:(enc r0).pure):ao P f args (enc r0):=by
 unfold mxP at h
 split at h
 ·rename_i af e
  obtain⟨fn,e1,e2⟩:=kC e
  obtain⟨h1,h⟩:=aq h
  refine bc.pure (bc.introS e1 e2 (Nat.le_of_ble_eq_true h1) (h:=[]) (h':=[]) ?_) hp
  rw[BN]
  refine cH h λe a' s' hk=>?_
  have fin:∀{a:An P Sf T} {s:S3},(jN 0 a s λa s=>match a with
    | .ret r=>match jl s af.res with
     | some xs=>aQ sh (lG xs)=enc r∧r=r0
     | none=>False
    | _=>False)→∃s',av 0 af.n s s'∧(∃xs,jl s' af.res=some xs∧Sub (lG xs) (enc r0))∧∀b x,bF [] b=some x→s'.hp b=some x:=by
   intro a s h
   obtain⟨a2,s2,g1,g2⟩:=fv (n:=af.n) h
   split at g2
   ·split at g2
    ·rename_i xs ex
     obtain⟨g3,rfl⟩:=g2
     exact⟨s2,g1,⟨xs,ex,g3 ▸ dC _ _⟩,λb x hx=>by simp[bF]at hx⟩
    ·exact g2.elim
   ·exact g2.elim
  cases e with
  | normal=>exact fin hk
  | exit id=>exact hk.elim
  | ret=>exact fin hk
 ·exact h.elim
theorem Sk{f:FuncId}{args:List AV}{hs:List Blk}{sh:Sh}{enc:T→AV}{hB:T→List (Option Blk)}{a:An P Sf T}{r0:T}(h:mxH P f args hs sh enc hB a r0):bc P f args hs (enc r0) (hB r0):=by
 unfold mxH at h
 split at h
 ·rename_i af e
  obtain⟨fn,e1,e2⟩:=kC e
  obtain⟨h1,h⟩:=aq h
  refine bc.introS e1 e2 (Nat.le_of_ble_eq_true h1) ?_
  rw[BN]
  refine cH h λe a' s' hk=>?_
  have fin:∀{a:An P Sf T} {s:S3},(jN hs.length a s λa s=>match a with
    | .retH r m bs=>nfP hs.length s m bs (match jl m.st af.res with
     | some xs=>aQ sh (lG xs)=enc r∧(m.hs.map PB.blk).take (hB r).length=hB r∧r=r0
     | none=>False)
    | _=>False)→∃s',av hs.length af.n s s'∧(∃xs,jl s' af.res=some xs∧Sub (lG xs) (enc r0))∧∀b x,bF (hB r0) b=some x→s'.hp b=some x:=by
   intro a s h
   obtain⟨a2,s2,g1,g2⟩:=fv (n:=af.n) h
   split at g2
   ·rename_i r m bs
    obtain⟨g3,g2⟩:=lN (n:=af.n) g2
    split at g2
    ·rename_i xs ex
     obtain⟨g4,g5,rfl⟩:=g2
     refine⟨m.st,g1.trans g3,⟨xs,ex,g4 ▸ dC _ _⟩,λb x hx=>?_⟩
     rw[show m.st.hp=bF (m.hs.map PB.blk)from(j1 _).symm]
     have hx:=cr.mp hx
     rw[←g5]at hx
     refine cr.mpr ?_
     rw[List.getElem?_take]at hx
     split at hx
     ·exact hx
     ·cases hx
    ·exact g2.elim
   ·exact g2.elim
  cases e with
  | normal=>exact fin hk
  | exit id=>exact hk.elim
  | ret=>exact fin hk
 ·exact h.elim
end
def ck(b:Bool)(R:Prop):Prop:=cond b R False
def br(b:Bool)(X Y:Prop):Prop:=cond b X Y
def Cl{P:Program}(c:PC P)(R:Prop):Prop:=c.args=c.args∧R
def Ch{P:Program}(c:HC P)(bs:List Nat)(f:Nat)(R:Prop):Prop:=dQ (aR bs f) c.args=dQ (aR bs f) c.args∧(c.h.map λx=>some (ia (aR bs f) x))=(c.h.map λx=>some (ia (aR bs f) x))∧R
def Rf{α:Type}(x:α)(R:Prop):Prop:=x=x∧R
def Bk{σ:Type}(n:σ→NF)(bs:List Nat)(I:σ→Prop)(m:σ→Nat)(x t:σ):Prop:=Nf (n x) bs (I x∧m x<m t)
def Be{σ:Type}(n:σ→NF)(bs:List Nat)(I:σ→Prop)(x:σ):Prop:=Nf (n x) bs (I x)
def Bj{σ:Type}(n:σ→NF)(bs:List Nat)(x:σ):Prop:=Nf (n x) bs (x=x)
def Rp{T:Type}(e:T→AV)(r r0:T):Prop:=Rf (e r) (r=r0)
def Qt{T:Type}(m:NF)(bs:List Nat)(e:T→AV)(b:T→List (Option Blk))(r r0:T):Prop:=Nf m bs (Rf (e r) (Rf (b r) (r=r0)))
def B(l:List UInt8):ByteArray:=⟨l.toArray⟩
def dF(k:IntKind)(a b:Int):Int:=k.wrap ((BitVec.ofInt k.bits a) &&& (BitVec.ofInt k.bits b)).toNat
def bOr(k:IntKind)(a b:Int):Int:=k.wrap ((BitVec.ofInt k.bits a) ||| (BitVec.ofInt k.bits b)).toNat
def bXor(k:IntKind)(a b:Int):Int:=k.wrap ((BitVec.ofInt k.bits a) ^^^ (BitVec.ofInt k.bits b)).toNat
def co(k:IntKind)(a b:Int):Int:=k.wrap ((BitVec.ofInt k.bits a) &&& ~~~(BitVec.ofInt k.bits b)).toNat
def gX(k:IntKind)(a b:Int):Int:=k.wrap (a * 2 ^ (Nat.min b.toNat k.bits))
def mW(k:IntKind)(a b:Int):Int:=a.fdiv (2 ^ (Nat.min b.toNat k.bits))
def MN.say:MN→Prop→Prop
 | .get _ kf _ vf l x z,R=>(l.map λp=>kf p.1)=(l.map λp=>kf p.1)∧(l.map λp=>vf p.2)=(l.map λp=>vf p.2)∧kf x=kf x∧vf z=vf z∧R
 | .put _ kf _ vf l x v,R=>(l.map λp=>kf p.1)=(l.map λp=>kf p.1)∧(l.map λp=>vf p.2)=(l.map λp=>vf p.2)∧kf x=kf x∧vf v=vf v∧R
 | .del _ kf _ vf l x,R=>(l.map λp=>kf p.1)=(l.map λp=>kf p.1)∧(l.map λp=>vf p.2)=(l.map λp=>vf p.2)∧kf x=kf x∧R
 | .getB _ _ kf _ vf l x _,R=>(l.map λp=>kf p.1)=(l.map λp=>kf p.1)∧(l.map λp=>vf p.2)=(l.map λp=>vf p.2)∧kf x=kf x∧R
theorem MN.say_iff{q:MN}{R:Prop}:q.say R↔R:=by cases q<;>simp[MN.say]
def fF{β:Type}(vf:β→AV)(l:List (Int×β))(x:Int)(z:β):MN:=.get inferInstance MK.n (λ_ _ h=>MK.n.inj h) vf l x z
def pN{β:Type}(vf:β→AV)(l:List (Int×β))(x:Int)(v:β):MN:=.put inferInstance MK.n (λ_ _ h=>MK.n.inj h) vf l x v
def Su{β:Type}(vf:β→AV)(l:List (Int×β))(x:Int):MN:=.del inferInstance MK.n (λ_ _ h=>MK.n.inj h) vf l x
def wW(h:Bool){β:Type}(vf:β→AV)(l:List (Int×β))(x:Int)(z:β):MN:=.getB h inferInstance MK.n (λ_ _ h=>MK.n.inj h) vf l x z
theorem Ux{b:Bool}{R:Prop}:ck b R↔b=true∧R:=by cases b<;>simp[ck]
theorem UG{b:Bool}{X Y:Prop}:br b X Y↔(b=true→X)∧(b=false→Y):=by cases b<;>simp[br]
theorem Vk{P:Program}{c:PC P}{R:Prop}:Cl c R↔R:=⟨λh=>h.2,λh=>⟨rfl,h⟩⟩
theorem Vl{P:Program}{c:HC P}{bs:List Nat}{f:Nat}{R:Prop}:Ch c bs f R↔R:=⟨λh=>h.2.2,λh=>⟨rfl,rfl,h⟩⟩
theorem rG{α:Type}{x:α}{R:Prop}:Rf x R↔R:=⟨λh=>h.2,λh=>⟨rfl,h⟩⟩
theorem Vm{σ:Type}{n:σ→NF}{bs:List Nat}{I:σ→Prop}{m:σ→Nat}{x t:σ}:Bk n bs I m x t↔I x∧m x<m t:=mS
theorem Vo{σ:Type}{n:σ→NF}{bs:List Nat}{I:σ→Prop}{x:σ}:Be n bs I x↔I x:=mS
theorem Vn{σ:Type}{n:σ→NF}{bs:List Nat}{x:σ}:Bj n bs x↔True:=⟨λ_=>trivial,λ_=>mS.mpr rfl⟩
theorem Vg{T:Type}{e:T→AV}{r r0:T}:Rp e r r0↔r=r0:=rG
theorem Vh{T:Type}{m:NF}{bs:List Nat}{e:T→AV}{b:T→List (Option Blk)}{r r0:T}:Qt m bs e b r r0↔r=r0:=mS.trans (rG.trans rG)
def Idt(l:List AV)(R:Prop):Prop:=l=(l.map λy=>y)∧R
def Eu{α:Type}(sh:Sh)(v:α→AV)(l xs:List α)(ys:List AV):Prop:=(((l.map v)++ys).map λy=>y).map (aQ sh)=(l++xs).map v
theorem pS(l:List AV):l.map (λy=>y)=l:=List.map_id'' (λ_=>rfl) l
theorem Po{l:List AV}{R:Prop}:Idt l R↔R:=⟨λh=>h.2,λh=>⟨(pS l).symm,h⟩⟩
theorem j4{α:Type}{sh:Sh}{v:α→AV}{l xs:List α}{ys:List AV}(h:∀x,aQ sh (v x)=v x)(h2:ys.map (aQ sh)=xs.map v):Eu sh v l xs ys:=by
 unfold Eu
 rw[pS,List.map_append,List.map_append,h2,List.map_map]
 exact congrArg (·++_) (List.map_congr_left λy _=>h y)
theorem aj{P:Program}{Sf:Nat→Type}{T:Type}{f:FuncId}{args:List AV}{sh:Sh}{enc:T→AV}{a:An P Sf T}{r0:T}{V:Prop}(h:V)(e:mxP P f args sh enc a r0=V)(hp:(enc r0).pure):ao P f args (enc r0):=by
 subst e;exact Sj h hp
theorem cq{P:Program}{Sf:Nat→Type}{T:Type}{f:FuncId}{args:List AV}{hs:List Blk}{sh:Sh}{enc:T→AV}{hB:T→List (Option Blk)}{a:An P Sf T}{r0:T}{V:Prop}(h:V)(e:mxH P f args hs sh enc hB a r0=V):bc P f args hs (enc r0) (hB r0):=by
 subst e;exact Sk h
attribute [irreducible] mxP mxH
abbrev W:=IntKind.i64.wrap
theorem cn{n:Int}(h:-9223372036854775808≤n∧n≤9223372036854775807):W n=n:=PR h
theorem ifb{p q:Prop}[Decidable p]:(decide p=true→q)↔(p→q):=by simp
theorem ifn{p q:Prop}[Decidable p]:(decide p=false→q)↔(¬p→q):=by simp
def fnB (P : Program) (f : FuncId) : Bool := match P.funcs[f]? with
  | some fn => fn.body.isSome && !(fn.name == "runtime.NumGoroutine")
  | none => false
theorem ah{P:Program}{f:FuncId}(h:fnB P f=true):nj P f:=by
 unfold fnB at h
 split at h
 ·rename_i fn e
  simp only[Bool.and_eq_true,Bool.not_eq_true']at h
  exact⟨fn,e,h.1,h.2⟩
 ·cases h
theorem dp:maxLen=9223372036854775807:=rfl
theorem SJ(n:Int):inK .i64 n↔-9223372036854775808≤n∧n≤9223372036854775807:=Iff.rfl
theorem aO{α:Type}{l:List α}{i:Nat}{x:α}(h:l[i]?=some x):l.take (i+1)=l.take i++[x]:=by rw[List.take_add_one,h];rfl
theorem ap{α:Type}{l:List α}{i:Nat}{x:α}(h:l[i]?=some x):i<l.length:=(List.getElem?_eq_some_iff.mp h).1
theorem aP{α:Type}{l:List α}{i:Nat}{x:α}(h:l[i]?=some x):x∈l:=List.mem_of_getElem? h
set_option linter.defProp false
def okU:=And.intro @okL.eq_1 (And.intro @okL.eq_2 (And.intro @AV.ok.eq_1 (And.intro @AV.ok.eq_2 (And.intro @AV.ok.eq_3 (And.intro @AV.ok.eq_4 (And.intro @AV.ok.eq_5 (And.intro @AV.ok.eq_6 (And.intro @SJ (And.intro @and_true (And.intro @true_and dp))))))))))
def Et{α:Type}(v:α→AV)(l:List α)(x:α)(le:List AV)(y:AV):Prop:=((le++[y]).map λy=>y)=((l++[x]).map v).set l.length y
def A4{α:Type}(l:List α)(x:α):List α:=(l++[x]).set l.length x
theorem Fe{α:Type}(l:List α)(x:α):A4 l x=l++[x]:=by
 unfold A4;rw[List.set_append_right _ _ (Nat.le_refl _)];simp
theorem Nk{α:Type}{v:α→AV}{l:List α}{x:α}{y:AV}:Et v l x (l.map v) y:=by
 unfold Et;rw[pS,List.map_append,List.set_append_right _ _ (by simp)];simp
theorem If{α:Type}{v:α→AV}{l:List α}{x:α}{y:AV}:Et v l x (l.map v) y↔True:=⟨λ_=>trivial,λ_=>Nk⟩
theorem Ie{α:Type}{v:α→AV}{x:α}{y:AV}:Et v [] x [] y↔True:=⟨λ_=>trivial,λ_=>rfl⟩
def B8(l:List Int):ByteArray:=⟨(l.map λx=>UInt8.ofNat x.toNat).toArray⟩
theorem nX:∀l:List Int,cm (l.map λx=>AV.val (.int .u8 x))=some (l.map λx=>UInt8.ofNat x.toNat)
 | []=>rfl
 | x::l=>by
  show(cm (l.map λx=>AV.val (.int .u8 x))).map (UInt8.ofNat x.toNat::·)=_
  rw[nX l];rfl
theorem KV{l:List Int}:SbB (l.map λx=>AV.val (.int .u8 x)) (AV.str (B8 l))↔True:=⟨λ_=>trivial,λ_=>⟨_,nX l,rfl⟩⟩
def vcU:=And.intro @MN.say_iff <| And.intro @UG (And.intro @Ux (And.intro @Vk (And.intro @Vl (And.intro @mS (And.intro @Vm (And.intro @Vo (And.intro @Vn (And.intro @Vg (And.intro @Vh (And.intro @ifb (And.intro @ifn (And.intro @decide_eq_true_eq (And.intro @decide_eq_false_iff_not (And.intro @Bool.and_eq_true @Bool.or_eq_true))))))))))))))
def rfU:=And.intro @rG (And.intro @Po (And.intro @If (And.intro @Ie (And.intro @Fe @KV))))
end Go.Am
namespace Go.Am
inductive Ax (P:Program) (Sf:Nat→Type) (T:Type):Type 1 where
  | say (φ:Prop→Prop) (a:Ax P Sf T)
  | nil
  | pass (a:Ax P Sf T)
  | br (g:Nat) (c:Bool) (x y:Ax P Sf T)
  | el (f:Nat) {α:Type} (v:α→AV) (l:List α) (Q:(α→Prop)→Prop) (k:α→Ax P Sf T)
  | elA (f:Nat) {α:Type} (v:α→List AV) (l:List α) (i n:Nat) (hv:∀x,(v x).length=n) (Q:(α→Prop)→Prop) (k:α→Ax P Sf T)
  | st (f:Nat) {α:Type} (v:α→AV) (l:List α) (g:α→α) (Q:(α→Prop)→Prop) (k:α→Ax P Sf T)
  | stI (f:Nat) {α:Type} (v:α→AV) (l:List α) (Q:(α→Prop)→Prop) (k:α→Ax P Sf T)
  | app (f:Nat) {α:Type} (v:α→AV) (l xs:List α) (a:Ax P Sf T)
  | appF (f:Nat) {α:Type} (v:α→AV) (l xs:List α) (a:Ax P Sf T)
  | sub (f:Nat) {α:Type} (v:α→AV) (l:List α) (fl:Bool) (a:Ax P Sf T)
  | rep (f:Nat) {α:Type} (v:α→AV) (x:α) (a:Ax P Sf T)
  | own (f:Nat) (a:Ax P Sf T)
  | mn (f:Nat) (q:MN) (a:Ax P Sf T)
  | req (f:Nat) (p:Prop) (k:p→Ax P Sf T)
  | callP (c:PC P) (a:Ax P Sf T)
  | callH (bs:List Nat) (c:HC P) (f:Nat) (a:Ax P Sf T)
  | callA (c:PC P) (h:bO c.args) (a:Ax P Sf T)
  | cmd (c:Cmd) (a:Ax P Sf T)
  | cmdL (c:Cmd) (a:Ax P Sf T)
  | wait (a:Ax P Sf T)
  | loop (j:Nat) (nf:Sf j→NF) (I:Sf j→Prop) (mu:Sf j→Nat) (s0:Sf j) (bs:List Nat) (body:Sf j→(Sf j→List Nat→Prop)→Ax P Sf T)
  | join (j:Nat) (nf:Sf j→NF) (I:Sf j→Prop) (a:(Sf j→List Nat→Prop)→Ax P Sf T) (body:Sf j→Ax P Sf T)
  | join2 (j:Nat) (nf:Sf j→NF) (I:Sf j→Prop) (a:(Sf j→List Nat→Prop)→Ax P Sf T) (body:Sf j→Ax P Sf T)
  | bk (j:Nat) (b:Sf j→List Nat→Prop) (t:Sf j) (bs:List Nat)
  | hand (k0:Nat) (cs:List Cmd) (m1:NF) (bs:List Nat) (s2:S3) (c:AC) (h:∀n,dy P k0 n c m1.st s2) (a:Ax P Sf T)
  | hand2 (k0:Nat) (s1 s2:S3) (c:AC) (h:∀n,dy P k0 n c s1 s2) (a:Ax P Sf T)
  | handQ (k0:Nat) (m1:NF) (bs:List Nat) (s2:S3) (c:AC) (p:Prop) (h:p→∀n,dy P k0 n c m1.st s2) (a:Ax P Sf T)
  | allB (c:Bool→Prop) (k:Bool→Ax P Sf T)
  | unr (n:Nat) (a:Ax P Sf T)
  | ret (r:T)
  | retH (r:T) (m:NF) (bs:List Nat)
section
variable {P : Program} {Sf : Nat → Type} {T : Type}
def Ax.an:Ax P Sf T→An P Sf T
 | .say _ a=>a.an
 | .nil=>.nil
 | .pass a=>.pass a.an
 | .br g _ x y=>.br g x.an y.an
 | .el f v l _ k=>.el f v l λx=>(k x).an
 | .elA f v l i n hv _ k=>.elA f v l i n hv λx=>(k x).an
 | .st f v l g _ k=>.st f v l g λx=>(k x).an
 | .stI f v l _ k=>.stI f v l λx=>(k x).an
 | .app f v l xs a=>.app f v l xs a.an
 | .appF f v l xs a=>.appF f v l xs a.an
 | .sub f v l fl a=>.sub f v l fl a.an
 | .rep f v x a=>.rep f v x a.an
 | .own f a=>.own f a.an
 | .mn f q a=>.mn f q a.an
 | .req f p k=>.req f p λh=>(k h).an
 | .callP c a=>.callP c a.an
 | .callH bs c _ a=>.callH bs c a.an
 | .callA c h a=>.callA c h a.an
 | .cmd c a=>.cmd c a.an
 | .cmdL c a=>.cmdL c a.an
 | .wait a=>.wait a.an
 | .loop j nf I mu s0 bs body=>.loop j nf I mu s0 bs λt=>(body t λ_ _=>True).an
 | .join j nf I a body=>.join j nf I (a λ_ _=>True).an λt=>(body t).an
 | .join2 j nf I a body=>.join2 j nf I (a λ_ _=>True).an λt=>(body t).an
 | .bk j _ t bs=>.back j t bs
 | .hand k0 cs m1 bs s2 c h a=>.hand k0 cs m1 bs s2 c h a.an
 | .hand2 k0 s1 s2 c h a=>.hand2 k0 s1 s2 c h a.an
 | .handQ k0 m1 bs s2 c p h a=>.handQ k0 m1 bs s2 c p h a.an
 | .allB _ k=>(k true).an
 | .unr n a=>.unr n a.an
 | .ret r=>.ret r
 | .retH r m bs=>.retH r m bs
def Ax.vc(e:T→AV)(b:T→List (Option Blk))(r0:T):Ax P Sf T→Prop
 | .say φ a=>φ (a.vc e b r0)
 | .nil=>True
 | .pass a=>a.vc e b r0
 | .br _ c x y=>Go.Am.br c (x.vc e b r0) (y.vc e b r0)
 | .el _ _ _ Q k=>Q λx=>(k x).vc e b r0
 | .elA _ _ _ _ _ _ Q k=>Q λx=>(k x).vc e b r0
 | .st _ _ _ _ Q k=>Q λx=>(k x).vc e b r0
 | .stI _ _ _ Q k=>Q λx=>(k x).vc e b r0
 | .app _ _ _ _ a=>a.vc e b r0
 | .appF _ _ _ _ a=>a.vc e b r0
 | .sub _ _ _ _ a=>a.vc e b r0
 | .rep _ _ _ a=>a.vc e b r0
 | .own _ a=>a.vc e b r0
 | .mn _ q a=>q.say (a.vc e b r0)
 | .req _ p k=>∃h:p,(k h).vc e b r0
 | .callP c a=>Cl c (a.vc e b r0)
 | .callH bs c f a=>Ch c bs f (a.vc e b r0)
 | .callA c _ a=>Cl c (a.vc e b r0)
 | .cmd _ a=>a.vc e b r0
 | .cmdL _ a=>a.vc e b r0
 | .wait a=>a.vc e b r0
 | .loop _ nf I mu s0 bs body=>Be nf bs I s0∧∀t,I t→(body t λx bs=>Bk nf bs I mu x t).vc e b r0
 | .join _ nf I a body=>(a λx bs=>Be nf bs I x).vc e b r0∧∀t,I t→(body t).vc e b r0
 | .join2 _ nf I a body=>(a λx bs=>Be nf bs I x).vc e b r0∧∀t,I t→(body t).vc e b r0
 | .bk _ b t bs=>b t bs
 | .hand _ _ m1 bs _ c _ a=>Nf m1 bs (Rf c (a.vc e b r0))
 | .hand2 _ s1 _ c _ a=>Rf s1 (Rf c (a.vc e b r0))
 | .handQ _ m1 bs _ c p _ a=>Nf m1 bs (Rf c (p∧a.vc e b r0))
 | .allB c k=>∀x,c x→(k x).vc e b r0
 | .unr _ a=>a.vc e b r0
 | .ret r=>Rp e r r0
 | .retH r m bs=>Qt m bs e b r r0
def Ax.vp(e:T→AV)(r0:T)(x:Ax P Sf T):Prop:=x.vc e (λ_=>[]) r0
end
@[reducible] def noS:Nat→Type:=λ_=>Unit
end Go.Am
namespace Go.Proofs.YtdbdndmdbbihbaaGreatDoor
open Go Go.Am
structure Tap where
  L:List Int
  p:Nat
structure zV where
  L:List Int
  p:Int
def Tap.v(x:Tap):AV:=.agg [.sl 1 (x.L.map AV.int) false,.int x.p]
@[simp] theorem vP (l:List Int):bR (l.map AV.int)=true:=ab (λ_=>rfl) l
def Mod(x n:Int):Int:=if n<1 then 0 else if x.tmod n<0 then x.tmod n+n else x.tmod n
theorem dr{x n:Int}(h:1≤n):0≤Mod x n∧Mod x n<n:=by
 have hb:=Int.tmod_lt_of_pos x (show 0<n by omega)
 have hb':=Int.lt_tmod_of_pos x (show 0<n by omega)
 unfold Mod;split
 ·omega
 split<;>omega
def ae(L:List Int)(p:Nat):Nat:=if L.length≤p then p else p+1
def ak(L:List Int)(p:Nat):Int:=L.getD p 0
def rng(L:List Int)(p:Nat)(lo hi:Int):Int:=W (lo+Mod (ak L p) (W (W (hi-lo)+1)))
def aI(l:List Int)(r:Int):Int:=l.getD (Mod r l.length).toNat 0
def orI(l:List Int):Int:=(l.find? (· != 0)).getD 0
def cmpI(x y:Int):Int:=if x<y then -1 else if y<x then 1 else 0
def lX(x:Int):Bool:=false
theorem aU{k n:Nat}(h:k<n)(hn:n≤9223372036854775807):W ((k:Int)+1)=((k+1:Nat):Int):=by rw[cn (by omega)];omega
theorem ix{k:Nat}(h:k≤9223372036854775807)(h1:1≤k):W ((k:Int)-1)=((k-1:Nat):Int):=by rw[cn (by omega)];omega
def M6(x:Int):=okL [.int x]
def qh(r:Bool):AV:=.bool r
def qg(x:Int):Ax Tryz.prog noS (Bool):=
 (.ret (x != x))
def ta(x:Int)(r0:Bool):=(qg x).vp qh r0
theorem M5(x:Int)(ok:M6 x):ta x (lX x):=by
 dsimp only[ta,qg,noS,Ax.vp,Ax.vc];simp only[vcU,rfU,List.length_map]
 simp[lX]
def BH(x:Int):PC Tryz.prog:=⟨185,[.k],[.int x],qh (lX x),ao.of_ok λok=>aj (sh:=.k) (enc:=qh) (a:=(qg x).an) (M5 x ok) (by kernel_rfl) (AV.pureB_ok rfl),ah (by kernel_rfl)⟩
def Uw(x:Int)(y:Int):=okL [.int x,.int y]
def zm(r:Int):AV:=.int r
def zl(x:Int)(y:Int):Ax Tryz.prog noS (Int):=
 (.callP (BH x)
(.callP (BH y)
(.br 128 (lX x) (.br 144 (lX y) (.ret (0))
(.ret (-1)))
(.br 144 (lX y) (.ret (1))
(.br 192 (decide (x<y)) (.ret (-1))
(.br 240 (decide (y<x)) (.ret (1))
(.ret (0))))))))
def CP(x:Int)(y:Int)(r0:Int):=(zl x y).vp zm r0
theorem Uv(x y:Int)(ok:Uw x y):CP x y (cmpI x y):=by
 dsimp only[CP,zl,noS,Ax.vp,Ax.vc];simp only[vcU,rfU,List.length_map]
 simp only[lX,Bool.false_eq_true,false_implies,true_implies,true_and,cmpI]
 refine⟨λh=>by rw[if_pos h],λh=>⟨λh2=>by rw[if_neg h,if_pos h2],λh2=>by rw[if_neg h,if_neg h2]⟩⟩
def zn(x:Int)(y:Int):PC Tryz.prog:=⟨154,[.k,.k],[.int x,.int y],zm (cmpI x y),ao.of_ok λok=>aj (sh:=.k) (enc:=zm) (a:=(zl x y).an) (Uv x y ok) (by kernel_rfl) (AV.pureB_ok rfl),ah (by kernel_rfl)⟩
theorem DR{l:List Int}{k:Nat}{x:Int}(h:l.take k |>.all (·==0))(hx:l[k]?=some x)(hn:x≠0):l.find? (· != 0)=some x:=by
 rw[List.find?_eq_some_iff_getElem]
 refine⟨by simpa using hn,k,ap hx,by rw[List.getElem?_eq_getElem (ap hx)]at hx;exact Option.some.inj hx,λj hj=>?_⟩
 have:=List.all_eq_true.mp h (l[j]'(by have:=ap hx;omega)) (List.mem_take_iff_getElem.mpr ⟨j,by have:=ap hx;omega,rfl⟩)
 simpa using this
def Jh(s:List Int):=okL [.sl 1 (s.map AV.int) false]
def mK(r:List Int):AV:=.sl 1 (r.map AV.int) false
def mJ(s:List Int):Ax Tryz.prog noS ((List Int)):=
 (.allB (λb1=>((s.map AV.int)≠[]→b1=false)) λb1 =>
(.br 48 (b1 != false) (.ret ([]))
(.say (λR=>Rf (α:=List AV) [] (Rf (α:=List AV) (s.map AV.int)
(ck (decide (0+s.length≤1048576))
R))) (.app 80 AV.int [] s
(.say (Rf (s.map AV.int)) (.cmdL (.frzE 80 (s.map AV.int) (ab (λ_=>rfl) s)) (.ret (s))))))))
def nV(s:List Int)(r0:List Int):=(mJ s).vp mK r0
theorem Jf(s:List Int)(h:s.length≤1000000)(ok:Jh s):nV s s:=by
 dsimp only[nV,mJ,noS,Ax.vp,Ax.vc];simp only[vcU,rfU,List.length_map]
 intro b hb
 simp only[vP,true_and,and_true,Nat.zero_add]
 refine⟨λh1=>?_,λ_=>by omega⟩
 cases s with
 | nil=>rfl
 | cons x s=>simp at hb;simp[hb]at h1
def Jg(s:List Int)(h:s.length≤1000000):PC Tryz.prog:=⟨127,[(.s 1)],[.sl 1 (s.map AV.int) false],mK s,ao.of_ok λok=>aj (sh:=(.s 1)) (enc:=mK) (a:=(mJ s).an) (Jf s h ok) (by kernel_rfl) (AV.pureB_ok rfl),ah (by kernel_rfl)⟩
theorem KE{a b:List Int}{k:Nat}{x y:Int}(h:a.take k=b.take k)(hx:a[k]?=some x)(hy:b[k]?=some y)(e:(x != y)=false):a.take (k+1)=b.take (k+1):=by
 have e:x=y:=by simpa using e
 rw[aO hx,aO hy,h,e]
def Vi(a b:List Int):Bool:=decide (a=b)
abbrev EqI:=Vi
def PO(s1:List Int)(s2:List Int):=okL [.sl 1 (s1.map AV.int) false,.sl 1 (s2.map AV.int) false]
def Vj(s1:List Int)(s2:List Int)(t0:Int):NF:=⟨[(0,.k,.sl 1 (s1.map AV.int) false),(1,.k,.sl 1 (s2.map AV.int) false),(12,.k,.int ((s1.map AV.int).length:Int)),(13,.k,.int t0)],[]⟩
@[reducible] def PN:Nat→Type
 | 0=>Int
 | _=>Unit
def Kd(r:Bool):AV:=.bool r
def Kb(s1:List Int)(s2:List Int)(I0:Int→Prop)(m0:Int→Nat):Ax Tryz.prog PN (Bool):=
 (.br 96 (((s1.map AV.int).length:Int) != ((s2.map AV.int).length:Int)) (.ret (false))
(.loop 0 (Vj s1 s2) I0 m0 ((0):Int) [] λ(t0:Int) b0 =>
(.br 16 (decide (t0<((s1.map AV.int).length:Int))) (.el 80 AV.int s1 (λR=>Rf (s1.map AV.int) (ck (decide (0≤t0)) (ck (decide (t0<(s1.length:Int)))
(∀x1,s1[t0.toNat]?=some x1 →
(R x1))))) λx1 =>
(.el 144 AV.int s2 (λR=>Rf (s2.map AV.int) (ck (decide (0≤t0)) (ck (decide (t0<(s2.length:Int)))
(∀x2,s2[t0.toNat]?=some x2 →
(R x2))))) λx2 =>
(.br 192 (x1 != x2) (.ret (false))
(.bk 0 b0 ((W (t0+1)):Int) []))))
(.ret (true)))))
def Kc(s1:List Int)(s2:List Int)(I0:Int→Prop)(m0:Int→Nat)(r0:Bool):=(Kb s1 s2 I0 m0).vp Kd r0
theorem EqI_p(a b:List Int)(ok:PO a b):∃I m,Kc a b I m (EqI a b):=by
 simp only[PO,okU,Blk.ok,az,List.length_map]at ok
 refine⟨λi=>∃k:Nat,i=k∧k≤a.length∧a.take k=b.take k,λi=>a.length-i.toNat,?_⟩
 dsimp only[Kc,Kb,PN,Ax.vp,Ax.vc];simp only[vcU,rfU,List.length_map]
 refine⟨λh=>?_,λh=>⟨⟨0,rfl,by omega,rfl⟩,?_⟩⟩
 ·refine(decide_eq_false λe=>?_).symm
  subst e;simp at h
 have hl:a.length=b.length:=by simp at h;omega
 rintro _ ⟨k,rfl,hk,h⟩
 simp only[Int.toNat_natCast]
 refine⟨λh1=>⟨by omega,by omega,λx hx=>⟨by omega,by omega,λy hy=>⟨λe=>?_,λe=>?_⟩⟩⟩,λh1=>?_⟩
 ·refine(decide_eq_false λe'=>?_).symm
  subst e';rw[hx]at hy;cases hy;simp at e
 ·rw[aU (n:=a.length) (by omega) (by omega)]
  exact⟨⟨k+1,rfl,by omega,KE h hx hy e⟩,by omega⟩
 ·rw[List.take_of_length_le (by omega),List.take_of_length_le (by omega)]at h
  exact(decide_eq_true h).symm
def EqI_c(s1:List Int)(s2:List Int):PC Tryz.prog:=⟨46,[(.s 1),(.s 1)],[.sl 1 (s1.map AV.int) false,.sl 1 (s2.map AV.int) false],Kd (EqI s1 s2),ao.of_ok λok=>(EqI_p s1 s2 ok).elim λI0 h=>h.elim λm0 h=>aj (sh:=.k) (enc:=Kd) (a:=(Kb s1 s2 I0 m0).an) h (by kernel_rfl) (AV.pureB_ok rfl),ah (by kernel_rfl)⟩
def f8{α:Type}(es:List α)(i:Nat)(x:α):List α:=es.take i++[x]++es.drop i
theorem QH{L:List Int}{p:Nat}{lo hi:Int}(h:-1000000000≤lo∧lo≤hi∧hi≤1000000000):lo≤rng L p lo hi∧rng L p lo hi≤hi:=by
 unfold rng
 have e1:W (hi-lo)=hi-lo:=cn (by omega)
 have e2:W (hi-lo+1)=hi-lo+1:=cn (by omega)
 rw[e1,e2]
 have:=dr (x:=ak L p) (show 1≤hi-lo+1 by omega)
 rw[cn (by omega)];omega
def putP(l:List Int)(x:Int):Nat:=l.findIdx (λy=>!decide (y<x))
def put(l:List Int)(x:Int):List Int:=if l[putP l x]?=some x then l else f8 l (putP l x) x
structure Rtr where
  id:Int
  cap:Bool
  deriving DecidableEq
structure Lnk where
  a:Int
  b:Int
  ca:Int
  cb:Int
  w:Int
  deriving DecidableEq
structure Tpl where
  rs:List Rtr
  ls:List Lnk
  deriving DecidableEq
theorem DA{α:Type}{l:List α}{k:Nat}{x:α}:((l.take k).drop 0)++([x]++((l.take ((l.length:Int).toNat)).drop k))=f8 l k x:=by
 rw[Int.toNat_natCast,List.take_length,List.drop_zero,f8,List.append_assoc]
def Rtr.v(x:Rtr):AV:=.agg [.int x.id,.bool x.cap]
def Lnk.v(x:Lnk):AV:=.agg [.int x.a,.int x.b,.int x.ca,.int x.cb,.int x.w]
def Tpl.v(x:Tpl):AV:=.agg [.sl 2 (x.rs.map Rtr.v) false,.sl 5 (x.ls.map Lnk.v) false]
def G(rows:List (List Bool))(h:Hp):Hp:=λb=>if 1000≤b∧b<2000 then(rows[b-1000]?).map (λr=>Blk.vec 1 (r.map AV.bool))else h b
def F(i:Nat):Nat:=1000+i
def names(n:Nat):List AV:=(List.range n).map λi=>.vec (F i)
def mset(M:List (List Bool))(x y:Nat):List (List Bool):=M.set x ((M.getD x []).set y true)
def Sq(n:Nat)(M:List (List Bool)):Prop:=M.length=n∧∀r∈M,r.length=n
theorem Sq.get{n:Nat}{M:List (List Bool)}(h:Sq n M){x:Nat}(hx:x<n):∃r,M[x]?=some r∧r.length=n∧M.getD x []=r:=by
 have hx:x<M.length:=by rw[h.1];exact hx
 exact⟨M[x],List.getElem?_eq_getElem hx,h.2 _ (List.getElem_mem hx),by simp[List.getD,List.getElem?_eq_getElem hx]⟩
theorem Sq.set{n:Nat}{M:List (List Bool)}(h:Sq n M)(x y:Nat):Sq n (mset M x y):=by
 refine⟨by simp[mset,h.1],λr hr=>?_⟩
 by_cases hx:x<n
 ·obtain⟨r0,g1,g2,g3⟩:=h.get hx
  rcases List.mem_or_eq_of_mem_set hr with hr|rfl
  ·exact h.2 r hr
  ·rw[g3];simpa using g2
 ·have:mset M x y=M:=List.set_eq_of_length_le (by rw[h.1];omega)
  rw[this]at hr;exact h.2 r hr
section
variable {α : Type} {l : List α} {P : α → Prop} {R : α → α → Prop} {t : Int} {x y : α}
theorem bA{i n:Int}(h1:0≤i)(h2:i<n):(bif decide (0≤i)then decide (i<n)else false)=true:=by
 rw[decide_eq_true h1,decide_eq_true h2];rfl
def aG(l:List α)(P:α→Prop)(t:Int):Prop:=∃k:Nat,t=k∧k≤l.length∧∀x∈l.take k,P x
theorem aG.zero:aG l P 0:=⟨0,rfl,by omega,by simp⟩
theorem aG.idx(h:aG l P t):0≤t:=by obtain⟨k,rfl,_,_⟩:=h;omega
theorem aG.step(h:aG l P t)(hl:l.length≤9223372036854775807)(hx:l[t.toNat]?=some x)(p:P x):aG l P (W (t+1))∧l.length-(W (t+1)).toNat<l.length-t.toNat:=by
 obtain⟨k,rfl,hk,ha⟩:=h
 rw[Int.toNat_natCast]at hx
 have:=ap hx
 rw[aU (n:=l.length) this hl]
 refine⟨⟨k+1,rfl,by omega,λz hz=>?_⟩,by omega⟩
 rw[aO hx]at hz
 rcases List.mem_append.mp hz with hz|hz
 ·exact ha z hz
 ·rw[List.mem_singleton]at hz;exact hz ▸ p
theorem aG.done(h:aG l P t)(c:¬t<l.length):∀x∈l,P x:=by
 obtain⟨k,rfl,hk,ha⟩:=h
 rw[List.take_of_length_le (by omega)]at ha
 exact ha
theorem aG.weak{Q:α→Prop}(h:aG l P t)(w:∀x,P x→Q x):aG l Q t:=by
 obtain⟨k,e,hk,ha⟩:=h
 exact⟨k,e,hk,λx hx=>w x (ha x hx)⟩
theorem bq(hx:l[t.toNat]?=some x):x∈l:=aP hx
def g9(l:List α)(R:α→α→Prop)(t:Int):Prop:=∃k:Nat,t=k∧1≤k∧k≤l.length+1∧∀j x y,j+1<k→l[j]?=some x→l[j+1]?=some y→R x y
theorem g9.one:g9 l R 1:=⟨1,rfl,by omega,by omega,λj x y h=>by omega⟩
theorem g9.idx(h:g9 l R t)(hl:l.length≤9223372036854775807)(c:t<l.length):(0≤W (t-1)∧W (t-1)<l.length)∧0≤t:=by
 obtain⟨k,rfl,h1,hk,ha⟩:=h
 rw[ix (by omega) h1]
 omega
theorem g9.step(h:g9 l R t)(hl:l.length≤9223372036854775807)(hx:l[(W (t-1)).toNat]?=some x)(hy:l[t.toNat]?=some y)(p:R x y):g9 l R (W (t+1))∧l.length+1-(W (t+1)).toNat<l.length+1-t.toNat:=by
 obtain⟨k,rfl,h1,hk,ha⟩:=h
 rw[Int.toNat_natCast]at hy
 have hlt:=ap hy
 rw[ix (by omega) h1,Int.toNat_natCast]at hx
 rw[aU (n:=l.length) hlt (by omega)]
 refine⟨⟨k+1,rfl,by omega,by omega,λj x' y' hj hx' hy'=>?_⟩,by omega⟩
 by_cases e:j+1=k
 ·subst e
  rw[show j+1-1=j by omega,hx']at hx;cases hx
  rw[hy']at hy;cases hy;exact p
 ·exact ha j x' y' (by omega) hx' hy'
theorem g9.bad(h:g9 l R t)(hl:l.length≤9223372036854775807)(hx:l[(W (t-1)).toNat]?=some x)(hy:l[t.toNat]?=some y){S:α→α→Prop}(p:¬S x y):¬l.Pairwise S:=by
 obtain⟨k,rfl,h1,hk,ha⟩:=h
 rw[Int.toNat_natCast]at hy
 have hlt:=ap hy
 rw[ix (by omega) h1,Int.toNat_natCast]at hx
 intro hp
 rw[List.pairwise_iff_getElem]at hp
 have:=hp (k-1) k (by omega) hlt (by omega)
 rw[List.getElem?_eq_getElem (by omega)]at hx hy
 rw[Option.some.inj hx,Option.some.inj hy]at this
 exact p this
theorem g9.done(h:g9 l R t)(c:¬t<l.length)(tr:∀x y z,R x y→R y z→R x z):l.Pairwise R:=by
 obtain⟨k,rfl,h1,hk,ha⟩:=h
 rw[List.pairwise_iff_getElem]
 have key:∀d i,(hi:i+d+1<l.length)→R (l[i]'(by omega)) l[i+d+1]:=by
  intro d
  induction d with
  | zero=>intro i hi;exact ha i _ _ (by omega) (List.getElem?_eq_getElem (by omega)) (List.getElem?_eq_getElem hi)
  | succ d ih =>
   intro i hi
   exact tr _ _ _ (ih i (by omega)) (ha (i+d+1) _ _ (by omega) (List.getElem?_eq_getElem (by omega)) (List.getElem?_eq_getElem hi))
 intro i j hi hj hij
 have:=key (j-i-1) i (by omega)
 simp only[show i+(j-i-1)+1=j by omega]at this
 exact this
def dW{σ:Type}(l:List α)(g:σ→α→σ)(s0:σ)(t:Int)(s:σ):Prop:=∃k:Nat,t=k∧k≤l.length∧s=(l.take k).foldl g s0
section
variable {σ : Type} {g : σ → α → σ} {s0 s : σ}
theorem dW.zero:dW l g s0 0 s0:=⟨0,rfl,by omega,rfl⟩
theorem dW.idx(h:dW l g s0 t s):0≤t:=by obtain⟨k,rfl,_,_⟩:=h;omega
theorem dW.step(h:dW l g s0 t s)(hl:l.length≤9223372036854775807)(hx:l[t.toNat]?=some x){s':σ}(p:s'=g s x):dW l g s0 (W (t+1)) s'∧l.length-(W (t+1)).toNat<l.length-t.toNat:=by
 obtain⟨k,rfl,hk,rfl⟩:=h
 rw[Int.toNat_natCast]at hx
 have:=ap hx
 rw[aU (n:=l.length) this hl]
 exact⟨⟨k+1,rfl,by omega,by rw[aO hx,List.foldl_append,p];rfl⟩,by omega⟩
theorem dW.done(h:dW l g s0 t s)(c:¬t<l.length):s=l.foldl g s0:=by
 obtain⟨k,rfl,hk,rfl⟩:=h
 rw[List.take_of_length_le (by omega)]
end
def fI{β:Type}(l:List α)(f:α→List β)(t:Int)(out:List β):Prop:=∃k:Nat,t=k∧k≤l.length∧out=(l.take k).flatMap f
section
variable {β : Type} {f : α → List β} {out : List β}
theorem fI.zero:fI l f 0 []:=⟨0,rfl,by omega,rfl⟩
theorem fI.idx(h:fI l f t out):0≤t:=by obtain⟨k,rfl,_,_⟩:=h;omega
theorem fI.step(h:fI l f t out)(hl:l.length≤9223372036854775807)(hx:l[t.toNat]?=some x){out':List β}(p:out'=out++f x):fI l f (W (t+1)) out'∧l.length-(W (t+1)).toNat<l.length-t.toNat:=by
 obtain⟨k,rfl,hk,rfl⟩:=h
 rw[Int.toNat_natCast]at hx
 have:=ap hx
 rw[aU (n:=l.length) this hl]
 exact⟨⟨k+1,rfl,by omega,by rw[aO hx,List.flatMap_append,p];simp⟩,by omega⟩
theorem fI.done(h:fI l f t out)(c:¬t<l.length):out=l.flatMap f:=by
 obtain⟨k,rfl,hk,rfl⟩:=h
 rw[List.take_of_length_le (by omega)]
theorem fI.len(h:fI l f t out){b:Nat}(hb:∀x∈l,(f x).length≤b):out.length≤l.length * b:=by
 obtain⟨k,rfl,hk,rfl⟩:=h
 have key:∀m:List α,(∀x∈m,(f x).length≤b)→(m.flatMap f).length≤m.length * b:=by
  intro m
  induction m with
  | nil=>intro _;simp
  | cons x m ih =>
   intro hm
   have h1:=hm x (by simp)
   have h2:=ih λy hy=>hm y (by simp[hy])
   rw[List.flatMap_cons,List.length_append,List.length_cons,Nat.succ_mul];omega
 refine Nat.le_trans (key _ λx hx=>hb x (List.mem_of_mem_take hx)) (Nat.mul_le_mul_right _ ?_)
 rw[List.length_take];omega
end
theorem tJ{β:Type}{f:α→β}{l:List α}:(l.flatMap λx=>[f x])=l.map f:=by
 induction l with
 | nil=>rfl
 | cons x l ih=>rw[List.flatMap_cons,ih];rfl
theorem yi{p:α→Bool}{l:List α}:(l.flatMap λx=>if p x=true then [x]else [])=l.filter p:=by
 induction l with
 | nil=>rfl
 | cons x l ih =>
  rw[List.flatMap_cons,ih,List.filter_cons]
  split<;>rfl
def ci(p:α→Bool)(l:List α):Int:=if l.any p=true then((l.findIdx p:Nat):Int)else -1
theorem aG.found{p:α→Bool}(h:aG l (λy=>p y=false) t)(hx:l[t.toNat]?=some x)(hp:p x=true):t=ci p l:=by
 obtain⟨k,rfl,hk,ha⟩:=h
 rw[Int.toNat_natCast]at hx
 rw[ci,if_pos (List.any_eq_true.mpr ⟨x,aP hx,hp⟩)]
 have:l.findIdx p=k:=by
  have hlt:=ap hx
  rw[List.getElem?_eq_getElem hlt]at hx
  have hx:=Option.some.inj hx
  rw[List.findIdx_eq hlt]
  refine⟨by rw[hx];exact hp,λj hj=>?_⟩
  exact ha _ (List.mem_take_iff_getElem.mpr ⟨j,by omega,rfl⟩)
 rw[this]
theorem aG.lost{p:α→Bool}(h:aG l (λy=>p y=false) t)(c:¬t<l.length):-1=ci p l:=by
 rw[ci,if_neg]
 rw[List.any_eq_true]
 rintro⟨x,hx,hp⟩
 rw[h.done c x hx]at hp;cases hp
theorem dc(p:α→Bool)(l:List α):decide (0≤ci p l)=l.any p:=by
 unfold ci
 cases l.any p
 ·rfl
 ·rw[if_pos rfl];exact decide_eq_true (by omega)
end
theorem qy{α:Type}{l:List α}{t:Int}{x:α}{p:α→Bool}(h:aG l (λy=>p y=false) t)(hx:l[t.toNat]?=some x)(hp:p x=true):l.find? p=some x:=by
 obtain⟨k,rfl,hk,ha⟩:=h
 rw[Int.toNat_natCast]at hx
 rw[List.find?_eq_some_iff_getElem]
 have hlt:=ap hx
 refine⟨hp,k,hlt,by rw[List.getElem?_eq_getElem hlt]at hx;exact Option.some.inj hx,λj hj=>?_⟩
 rw[ha _ (List.mem_take_iff_getElem.mpr ⟨j,by omega,rfl⟩)];rfl
theorem Cr{α:Type}{l:List α}{t:Int}{p:α→Bool}(h:aG l (λy=>p y=false) t)(c:¬t<l.length):l.find? p=none:=by
 rw[List.find?_eq_none]
 exact λx hx=>by rw[h.done c x hx];simp
def kL(n:Int):Bool:=decide (1≤n) && decide (n≤1000)
def Ud(n:Int):=okL [.int n]
def yQ(r:Bool):AV:=.bool r
def yP(n:Int):Ax Tryz.prog noS (Bool):=
 (.br 64 (decide (1≤n)) (.ret (decide (n≤1000)))
(.ret (false)))
def CD(n:Int)(r0:Bool):=(yP n).vp yQ r0
theorem Uc(n:Int)(ok:Ud n):CD n (kL n):=by
 dsimp only[CD,yP,noS,Ax.vp,Ax.vc];simp only[vcU,rfU,List.length_map]
 refine⟨λc=>?_,λc=>?_⟩<;>simp[kL,c]
def IU(n:Int):PC Tryz.prog:=⟨77,[.k],[.int n],yQ (kL n),ao.of_ok λok=>aj (sh:=.k) (enc:=yQ) (a:=(yP n).an) (Uc n ok) (by kernel_rfl) (AV.pureB_ok rfl),ah (by kernel_rfl)⟩
def aK(t:Tpl)(r:Int):Bool:=t.rs.any λx=>x.id==r
def HO(t:Tpl)(r:Int):=okL [.agg [.sl 2 (t.rs.map Rtr.v) false,.sl 5 (t.ls.map Lnk.v) false],.int r]
def MJ(t:Tpl)(r:Int)(t0:Int):NF:=⟨[(1,.k,.int r),(2,.k,.ref 0 0),(5,.k,.int t0)],[.box (.agg [.sl 2 (t.rs.map Rtr.v) false,.sl 5 (t.ls.map Lnk.v) false])]⟩
@[reducible] def HN:Nat→Type
 | 0=>Int
 | _=>Unit
def xN(r:Bool):AV:=.bool r
def xM(t:Tpl)(r:Int)(I0:Int→Prop)(m0:Int→Nat):Ax Tryz.prog HN (Bool):=
 (.loop 0 (MJ t r) I0 m0 ((0):Int) [0] λ(t0:Int) b0 =>
(.br 81 (decide (t0<((t.rs.map Rtr.v).length:Int))) (.el 129 Rtr.v t.rs (λR=>Rf (t.rs.map Rtr.v) (ck (decide (0≤t0)) (ck (decide (t0<(t.rs.length:Int)))
(∀x1,t.rs[t0.toNat]?=some x1 →
(R x1))))) λx1 =>
(.br 209 (x1.id==r) (.ret (true))
(.bk 0 b0 ((W (t0+1)):Int) [0])))
(.ret (false))))
def BX(t:Tpl)(r:Int)(I0:Int→Prop)(m0:Int→Nat)(r0:Bool):=(xM t r I0 m0).vp xN r0
theorem SX(t:Tpl)(r:Int)(ok:HO t r):∃I m,BX t r I m (aK t r):=by
 refine⟨λi=>aG t.rs (λx=>(x.id==r)=false) i,λi=>t.rs.length-i.toNat,?_⟩
 simp only[HO,okU,Blk.ok,az,List.length_map]at ok
 dsimp only[BX,xM,HN,Ax.vp,Ax.vc];simp only[vcU,rfU,List.length_map]
 refine⟨aG.zero,λi h=>⟨λc=>⟨h.idx,c,λx hx=>⟨λq=>?_,λq=>h.step (by omega) hx q⟩⟩,λc=>?_⟩⟩
 ·exact(List.any_eq_true.mpr ⟨x,bq hx,q⟩).symm
 ·exact(List.any_eq_false.mpr λx hx=>by rw[h.done c x hx];simp).symm
def xO(t:Tpl)(r:Int):PC Tryz.prog:=⟨78,[(.a [(.s 2),(.s 5)]),.k],[.agg [.sl 2 (t.rs.map Rtr.v) false,.sl 5 (t.ls.map Lnk.v) false],.int r],xN (aK t r),ao.of_ok λok=>(SX t r ok).elim λI0 h=>h.elim λm0 h=>aj (sh:=.k) (enc:=xN) (a:=(xM t r I0 m0).an) h (by kernel_rfl) (AV.pureB_ok rfl),ah (by kernel_rfl)⟩
def gO(l:Lnk):Prop:=kL l.ca=true∧kL l.cb=true∧0≤l.w∧l.w≤1000
instance (l:Lnk):Decidable (gO l):=by unfold gO;infer_instance
def cP(x y:Lnk):Prop:=x.a<y.a∨x.a=y.a∧x.b<y.b
instance (x y:Lnk):Decidable (cP x y):=by unfold cP;infer_instance
def aB(t:Tpl):Int:=
 if 24<t.rs.length∨60<t.ls.length then 3
 else if ¬∀x∈t.rs,1≤x.id∧x.id≤99 then 2
 else if ¬t.rs.Pairwise (λx y=>x.id<y.id)then 25
 else if ¬∀l∈t.ls,gO l then 2
 else if ¬∀l∈t.ls,aK t l.a=true∧aK t l.b=true then 4
 else if ¬∀l∈t.ls,l.a<l.b then 8
 else if ¬t.ls.Pairwise cP then 25 else 0
def Jq(t:Tpl):=okL [.agg [.sl 2 (t.rs.map Rtr.v) false,.sl 5 (t.ls.map Lnk.v) false]]
def OD(t:Tpl)(t0:Bool):NF:=⟨[(1,.k,.ref 0 0),(21,.k,.bool t0)],[.box (.agg [.sl 2 (t.rs.map Rtr.v) false,.sl 5 (t.ls.map Lnk.v) false])]⟩
def OC(t:Tpl)(t1:Int):NF:=⟨[(1,.k,.ref 0 0),(3,.k,.int t1)],[.box (.agg [.sl 2 (t.rs.map Rtr.v) false,.sl 5 (t.ls.map Lnk.v) false])]⟩
def OB(t:Tpl)(t1:Int)(t2:Bool):NF:=⟨[(1,.k,.ref 0 0),(3,.k,.int t1),(44,.k,.bool t2)],[.box (.agg [.sl 2 (t.rs.map Rtr.v) false,.sl 5 (t.ls.map Lnk.v) false])]⟩
def OA(t:Tpl)(t3:Int):NF:=⟨[(1,.k,.ref 0 0),(4,.k,.int t3)],[.box (.agg [.sl 2 (t.rs.map Rtr.v) false,.sl 5 (t.ls.map Lnk.v) false])]⟩
def O9(t:Tpl)(t4:Int):NF:=⟨[(1,.k,.ref 0 0),(5,.k,.int t4)],[.box (.agg [.sl 2 (t.rs.map Rtr.v) false,.sl 5 (t.ls.map Lnk.v) false])]⟩
def O8(t:Tpl)(t4:Int)(t5:Bool):NF:=⟨[(1,.k,.ref 0 0),(5,.k,.int t4),(97,.k,.bool t5)],[.box (.agg [.sl 2 (t.rs.map Rtr.v) false,.sl 5 (t.ls.map Lnk.v) false])]⟩
def O7(t:Tpl)(t6:Int):NF:=⟨[(1,.k,.ref 0 0),(7,.k,.int t6)],[.box (.agg [.sl 2 (t.rs.map Rtr.v) false,.sl 5 (t.ls.map Lnk.v) false])]⟩
def O6(t:Tpl)(t6:Int)(t7:Bool):NF:=⟨[(1,.k,.ref 0 0),(7,.k,.int t6),(124,.k,.bool t7)],[.box (.agg [.sl 2 (t.rs.map Rtr.v) false,.sl 5 (t.ls.map Lnk.v) false])]⟩
def O5(t:Tpl)(t8:Int):NF:=⟨[(1,.k,.ref 0 0),(8,.k,.int t8)],[.box (.agg [.sl 2 (t.rs.map Rtr.v) false,.sl 5 (t.ls.map Lnk.v) false])]⟩
def O4(t:Tpl)(t9:Int):NF:=⟨[(1,.k,.ref 0 0),(9,.k,.int t9)],[.box (.agg [.sl 2 (t.rs.map Rtr.v) false,.sl 5 (t.ls.map Lnk.v) false])]⟩
def Jo(t:Tpl)(t9:Int)(t10:Bool):NF:=⟨[(1,.k,.ref 0 0),(9,.k,.int t9),(181,.k,.bool t10)],[.box (.agg [.sl 2 (t.rs.map Rtr.v) false,.sl 5 (t.ls.map Lnk.v) false])]⟩
@[reducible] def Jn:Nat→Type
 | 0=>Bool
 | 1=>Int
 | 2=>Bool
 | 3=>Int
 | 4=>Int
 | 5=>Bool
 | 6=>Int
 | 7=>Bool
 | 8=>Int
 | 9=>Int
 | 10=>Bool
 | _=>Unit
def zx(r:Int):AV:=.int r
def zw(t:Tpl)(I0:Bool→Prop)(I1:Bool→Int→Prop)(m1:Bool→Int→Nat)(I2:Bool→Int→Bool→Prop)(I3:Bool→Int→Int→Prop)(m3:Bool→Int→Int→Nat)(I4:Bool→Int→Int→Int→Prop)(m4:Bool→Int→Int→Int→Nat)(I5:Bool→Int→Int→Int→Lnk→Bool→Prop)(I6:Bool→Int→Int→Int→Int→Prop)(m6:Bool→Int→Int→Int→Int→Nat)(I7:Bool→Int→Int→Int→Int→Bool→Prop)(I8:Bool→Int→Int→Int→Int→Int→Prop)(m8:Bool→Int→Int→Int→Int→Int→Nat)(I9:Bool→Int→Int→Int→Int→Int→Int→Prop)(m9:Bool→Int→Int→Int→Int→Int→Int→Nat)(I10:Bool→Int→Int→Int→Int→Int→Int→Lnk→Lnk→Bool→Prop):Ax Tryz.prog Jn (Int):=
 (.pass (.pass (.join 0 (OD t) (λ(t0:Bool)=>I0 t0) (λb0=>(.br 112 (decide (24<((t.rs.map Rtr.v).length:Int))) (.bk 0 b0 ((true):Bool) [0])
(.bk 0 b0 ((decide (60<((t.ls.map Lnk.v).length:Int))):Bool) [0]))) λ(t0:Bool) =>
(.br 1 t0 (.ret (3))
(.loop 1 (OC t) (I1 t0) (m1 t0) ((0):Int) [0] λ(t1:Int) b1 =>
(.br 81 (decide (t1<((t.rs.map Rtr.v).length:Int))) (.pass (.join 2 (OB t t1) (λ(t2:Bool)=>I2 t0 t1 t2) (λb2=>(.el 129 Rtr.v t.rs (λR=>Rf (t.rs.map Rtr.v) (ck (decide (0≤t1)) (ck (decide (t1<(t.rs.length:Int)))
(∀x1,t.rs[t1.toNat]?=some x1 →
(R x1))))) λx1 =>
(.br 209 (decide (x1.id<1)) (.bk 2 b2 ((true):Bool) [0])
(.el 257 Rtr.v t.rs (λR=>Rf (t.rs.map Rtr.v) (ck (decide (0≤t1)) (ck (decide (t1<(t.rs.length:Int)))
(∀x2,t.rs[t1.toNat]?=some x2 →
(R x2))))) λx2 =>
(.bk 2 b2 ((decide (99<x2.id)):Bool) [0]))))) λ(t2:Bool) =>
(.br 1 t2 (.ret (2))
(.bk 1 b1 ((W (t1+1)):Int) [0]))))
(.loop 3 (OA t) (I3 t0 t1) (m3 t0 t1) ((1):Int) [0] λ(t3:Int) b3 =>
(.br 81 (decide (t3<((t.rs.map Rtr.v).length:Int))) (.el 145 Rtr.v t.rs (λR=>Rf (t.rs.map Rtr.v) (ck (decide (0≤(W (t3-1)))) (ck (decide ((W (t3-1))<(t.rs.length:Int)))
(∀x3,t.rs[(W (t3-1)).toNat]?=some x3 →
(R x3))))) λx3 =>
(.el 241 Rtr.v t.rs (λR=>Rf (t.rs.map Rtr.v) (ck (decide (0≤t3)) (ck (decide (t3<(t.rs.length:Int)))
(∀x4,t.rs[t3.toNat]?=some x4 →
(R x4))))) λx4 =>
(.br 305 (decide (x4.id≤x3.id)) (.ret (25))
(.bk 3 b3 ((W (t3+1)):Int) [0]))))
(.loop 4 (O9 t) (I4 t0 t1 t3) (m4 t0 t1 t3) ((0):Int) [0] λ(t4:Int) b4 =>
(.br 81 (decide (t4<((t.ls.map Lnk.v).length:Int))) (.el 129 Lnk.v t.ls (λR=>Rf (t.ls.map Lnk.v) (ck (decide (0≤t4)) (ck (decide (t4<(t.ls.length:Int)))
(∀x5,t.ls[t4.toNat]?=some x5 →
(R x5))))) λx5 =>
(.join 5 (O8 t t4) (λ(t5:Bool)=>I5 t0 t1 t3 t4 x5 t5) (λb5=>(.callP (IU x5.ca)
(.br 273 (!(kL x5.ca)) (.bk 5 b5 ((true):Bool) [0])
(.callP (IU x5.cb)
(.br 369 (!(kL x5.cb)) (.bk 5 b5 ((true):Bool) [0])
(.br 449 (decide (x5.w<0)) (.bk 5 b5 ((true):Bool) [0])
(.bk 5 b5 ((decide (1000<x5.w)):Bool) [0]))))))) λ(t5:Bool) =>
(.br 1 t5 (.ret (2))
(.bk 4 b4 ((W (t4+1)):Int) [0]))))
(.loop 6 (O7 t) (I6 t0 t1 t3 t4) (m6 t0 t1 t3 t4) ((0):Int) [0] λ(t6:Int) b6 =>
(.br 81 (decide (t6<((t.ls.map Lnk.v).length:Int))) (.pass (.join 7 (O6 t t6) (λ(t7:Bool)=>I7 t0 t1 t3 t4 t6 t7) (λb7=>(.el 145 Lnk.v t.ls (λR=>Rf (t.ls.map Lnk.v) (ck (decide (0≤t6)) (ck (decide (t6<(t.ls.length:Int)))
(∀x6,t.ls[t6.toNat]?=some x6 →
(R x6))))) λx6 =>
(.callP (xO t x6.a)
(.br 241 (!(aK t x6.a)) (.bk 7 b7 ((true):Bool) [0])
(.el 305 Lnk.v t.ls (λR=>Rf (t.ls.map Lnk.v) (ck (decide (0≤t6)) (ck (decide (t6<(t.ls.length:Int)))
(∀x7,t.ls[t6.toNat]?=some x7 →
(R x7))))) λx7 =>
(.callP (xO t x7.b)
(.bk 7 b7 ((!(aK t x7.b)):Bool) [0]))))))) λ(t7:Bool) =>
(.br 1 t7 (.ret (4))
(.bk 6 b6 ((W (t6+1)):Int) [0]))))
(.loop 8 (O5 t) (I8 t0 t1 t3 t4 t6) (m8 t0 t1 t3 t4 t6) ((0):Int) [0] λ(t8:Int) b8 =>
(.br 81 (decide (t8<((t.ls.map Lnk.v).length:Int))) (.el 129 Lnk.v t.ls (λR=>Rf (t.ls.map Lnk.v) (ck (decide (0≤t8)) (ck (decide (t8<(t.ls.length:Int)))
(∀x8,t.ls[t8.toNat]?=some x8 →
(R x8))))) λx8 =>
(.el 225 Lnk.v t.ls (λR=>Rf (t.ls.map Lnk.v) (ck (decide (0≤t8)) (ck (decide (t8<(t.ls.length:Int)))
(∀x9,t.ls[t8.toNat]?=some x9 →
(R x9))))) λx9 =>
(.br 289 (decide (x9.b≤x8.a)) (.ret (8))
(.bk 8 b8 ((W (t8+1)):Int) [0]))))
(.loop 9 (O4 t) (I9 t0 t1 t3 t4 t6 t8) (m9 t0 t1 t3 t4 t6 t8) ((1):Int) [0] λ(t9:Int) b9 =>
(.br 81 (decide (t9<((t.ls.map Lnk.v).length:Int))) (.el 145 Lnk.v t.ls (λR=>Rf (t.ls.map Lnk.v) (ck (decide (0≤(W (t9-1)))) (ck (decide ((W (t9-1))<(t.ls.length:Int)))
(∀x10,t.ls[(W (t9-1)).toNat]?=some x10 →
(R x10))))) λx10 =>
(.el 225 Lnk.v t.ls (λR=>Rf (t.ls.map Lnk.v) (ck (decide (0≤t9)) (ck (decide (t9<(t.ls.length:Int)))
(∀x11,t.ls[t9.toNat]?=some x11 →
(R x11))))) λx11 =>
(.join 10 (Jo t t9) (λ(t10:Bool)=>I10 t0 t1 t3 t4 t6 t8 t9 x10 x11 t10) (λb10=>(.br 417 (decide (x11.a<x10.a)) (.bk 10 b10 ((true):Bool) [0])
(.br 513 (x10.a==x11.a) (.bk 10 b10 ((decide (x11.b≤x10.b)):Bool) [0])
(.bk 10 b10 ((false):Bool) [0])))) λ(t10:Bool) =>
(.br 1 t10 (.ret (25))
(.bk 9 b9 ((W (t9+1)):Int) [0])))))
(.ret (0))))))))))))))))))
def CU(t:Tpl)(I0:Bool→Prop)(I1:Bool→Int→Prop)(m1:Bool→Int→Nat)(I2:Bool→Int→Bool→Prop)(I3:Bool→Int→Int→Prop)(m3:Bool→Int→Int→Nat)(I4:Bool→Int→Int→Int→Prop)(m4:Bool→Int→Int→Int→Nat)(I5:Bool→Int→Int→Int→Lnk→Bool→Prop)(I6:Bool→Int→Int→Int→Int→Prop)(m6:Bool→Int→Int→Int→Int→Nat)(I7:Bool→Int→Int→Int→Int→Bool→Prop)(I8:Bool→Int→Int→Int→Int→Int→Prop)(m8:Bool→Int→Int→Int→Int→Int→Nat)(I9:Bool→Int→Int→Int→Int→Int→Int→Prop)(m9:Bool→Int→Int→Int→Int→Int→Int→Nat)(I10:Bool→Int→Int→Int→Int→Int→Int→Lnk→Lnk→Bool→Prop)(r0:Int):=(zw t I0 I1 m1 I2 I3 m3 I4 m4 I5 I6 m6 I7 I8 m8 I9 m9 I10).vp zx r0
theorem U4(t:Tpl)(ok:Jq t):∃I0 I1 m1 I2 I3 m3 I4 m4 I5 I6 m6 I7 I8 m8 I9 m9 I10,CU t I0 I1 m1 I2 I3 m3 I4 m4 I5 I6 m6 I7 I8 m8 I9 m9 I10 (aB t):=by
 refine⟨λb=>b=decide (24<t.rs.length∨60<t.ls.length),λ_ i=>aG t.rs (λx=>1≤x.id∧x.id≤99) i,λ_ i=>t.rs.length-i.toNat,
  λ_ i b=>∀x,t.rs[i.toNat]?=some x→b=decide (¬(1≤x.id∧x.id≤99)),λ_ _ i=>g9 t.rs (λx y=>x.id<y.id) i,λ_ _ i=>t.rs.length+1-i.toNat,
  λ_ _ _ i=>aG t.ls gO i,λ_ _ _ i=>t.ls.length-i.toNat,λ_ _ _ _ l b=>b=decide (¬gO l),λ_ _ _ _ i=>aG t.ls (λl=>aK t l.a=true∧aK t l.b=true) i,λ_ _ _ _ i=>t.ls.length-i.toNat,
  λ_ _ _ _ i b=>∀l,t.ls[i.toNat]?=some l→b=decide (¬(aK t l.a=true∧aK t l.b=true)),λ_ _ _ _ _ i=>aG t.ls (λl=>l.a<l.b) i,λ_ _ _ _ _ i=>t.ls.length-i.toNat,
  λ_ _ _ _ _ _ i=>g9 t.ls cP i,λ_ _ _ _ _ _ i=>t.ls.length+1-i.toNat,λ_ _ _ _ _ _ _ x y b=>b=decide (¬cP x y),?_⟩
 simp only[Jq,okU,Blk.ok,az,List.length_map]at ok
 dsimp only[CU,zw,Jn,Ax.vp,Ax.vc];simp only[vcU,rfU,List.length_map]
 refine⟨⟨λc=>(decide_eq_true (.inl (by omega))).symm,λc=>decide_eq_decide.mpr (by omega)⟩,?_⟩
 rintro _ rfl
 unfold aB
 refine⟨λc=>by rw[if_pos (of_decide_eq_true c)],λc=>⟨aG.zero,λi1 h1=>⟨λd=>⟨⟨h1.idx,d,λx hx=>⟨λe y hy=>?_,λe=>⟨h1.idx,d,λy hy z hz=>?_⟩⟩⟩,?_⟩,λd=>?_⟩⟩⟩
 ·rw[hx]at hy;cases hy;exact(decide_eq_true (by omega)).symm
 ·rw[hx]at hy;cases hy;rw[hx]at hz;cases hz;exact decide_eq_decide.mpr (by omega)
 ·have c:=of_decide_eq_false c
  have hx:=List.getElem?_eq_getElem (show i1.toNat<t.rs.length by have:=h1.idx;omega)
  intro b hb
  have hb:=hb _ hx
  subst hb
  refine⟨λe=>?_,λe=>h1.step (by omega) hx (Classical.not_not.mp (of_decide_eq_false e))⟩
  rw[if_neg c,if_pos λq=>of_decide_eq_true e (q _ (bq hx))]
 have c:=of_decide_eq_false c
 rw[if_neg c,if_neg (not_not_intro (h1.done d))]
 refine⟨g9.one,λi2 h2=>⟨λd2=>?_,λd2=>?_⟩⟩
 ·obtain⟨a1,a2⟩:=h2.idx (by omega) d2
  refine⟨a1.1,a1.2,λx hx=>⟨a2,d2,λy hy=>⟨λe=>?_,λe=>h2.step (by omega) hx hy (by omega)⟩⟩⟩
  rw[if_pos (h2.bad (by omega) hx hy (by omega))]
 rw[if_neg (not_not_intro (h2.done d2 λ_ _ _ q r=>Int.lt_trans q r))]
 refine⟨aG.zero,λi3 h3=>⟨λd3=>⟨h3.idx,d3,λx hx=>⟨⟨λe=>?_,λe=>⟨λe2=>?_,λe2=>⟨λe3=>?_,λe3=>?_⟩⟩⟩,?_⟩⟩,λd3=>?_⟩⟩
 ·exact(decide_eq_true (show ¬gO x from λq=>by rw[q.1]at e;cases e)).symm
 ·exact(decide_eq_true (show ¬gO x from λq=>by rw[q.2.1]at e2;cases e2)).symm
 ·exact(decide_eq_true (show ¬gO x from λq=>by have:=q.2.2.1;omega)).symm
 ·have e:kL x.ca=true:=by simpa using e
  have e2:kL x.cb=true:=by simpa using e2
  refine decide_eq_decide.mpr ⟨λq r=>by have:=r.2.2.2;omega,λq=>?_⟩
  exact Classical.byContradiction λr=>q ⟨e,e2,by omega,by omega⟩
 ·rintro _ rfl
  refine⟨λe=>?_,λe=>h3.step (by omega) hx (Classical.not_not.mp (of_decide_eq_false e))⟩
  rw[if_pos λq=>of_decide_eq_true e (q _ (bq hx))]
 rw[if_neg (not_not_intro (h3.done d3))]
 refine⟨aG.zero,λi4 h4=>⟨λd4=>⟨⟨h4.idx,d4,λx hx=>⟨λe y hy=>?_,λe=>⟨h4.idx,d4,λy hy z hz=>?_⟩⟩⟩,?_⟩,λd4=>?_⟩⟩
 ·rw[hx]at hy;cases hy
  exact(decide_eq_true (show ¬(aK t x.a=true∧aK t x.b=true)from λq=>by rw[q.1]at e;cases e)).symm
 ·rw[hx]at hy;cases hy;rw[hx]at hz;cases hz
  have e:aK t x.a=true:=by simpa using e
  cases q:aK t x.b<;>simp[e]
 ·have hx:=List.getElem?_eq_getElem (show i4.toNat<t.ls.length by have:=h4.idx;omega)
  intro b hb
  have hb:=hb _ hx
  subst hb
  refine⟨λe=>?_,λe=>h4.step (by omega) hx (Classical.not_not.mp (of_decide_eq_false e))⟩
  rw[if_pos λq=>of_decide_eq_true e (q _ (bq hx))]
 rw[if_neg (not_not_intro (h4.done d4))]
 refine⟨aG.zero,λi5 h5=>⟨λd5=>⟨h5.idx,d5,λx hx=>⟨h5.idx,d5,λy hy=>?_⟩⟩,λd5=>?_⟩⟩
 ·rw[hx]at hy;cases hy
  refine⟨λe=>?_,λe=>h5.step (by omega) hx (by omega)⟩
  rw[if_pos λq=>by have:=q _ (bq hx);omega]
 rw[if_neg (not_not_intro (h5.done d5))]
 refine⟨g9.one,λi6 h6=>⟨λd6=>?_,λd6=>?_⟩⟩
 ·obtain⟨a1,a2⟩:=h6.idx (by omega) d6
  refine⟨a1.1,a1.2,λx hx=>⟨a2,d6,λy hy=>⟨⟨λe=>?_,λe=>⟨λe2=>?_,λe2=>?_⟩⟩,?_⟩⟩⟩
  ·exact(decide_eq_true (show ¬cP x y from λq=>by unfold cP at q;omega)).symm
  ·have e2:=eq_of_beq e2
   exact decide_eq_decide.mpr (by unfold cP;omega)
  ·have e2:¬x.a=y.a:=by simpa using e2
   exact(decide_eq_false (not_not_intro (.inl (by omega)))).symm
  ·rintro _ rfl
   refine⟨λe=>?_,λe=>h6.step (by omega) hx hy (Classical.not_not.mp (of_decide_eq_false e))⟩
   rw[if_pos (h6.bad (by omega) hx hy (of_decide_eq_true e))]
 ·rw[if_neg (not_not_intro (h6.done d6 λ_ _ _ q r=>by unfold cP at *;omega))]
def kg(t:Tpl):PC Tryz.prog:=⟨25,[(.a [(.s 2),(.s 5)])],[.agg [.sl 2 (t.rs.map Rtr.v) false,.sl 5 (t.ls.map Lnk.v) false]],zx (aB t),ao.of_ok λok=>(U4 t ok).elim λI0 h=>h.elim λI1 h=>h.elim λm1 h=>h.elim λI2 h=>h.elim λI3 h=>h.elim λm3 h=>h.elim λI4 h=>h.elim λm4 h=>h.elim λI5 h=>h.elim λI6 h=>h.elim λm6 h=>h.elim λI7 h=>h.elim λI8 h=>h.elim λm8 h=>h.elim λI9 h=>h.elim λm9 h=>h.elim λI10 h=>aj (sh:=.k) (enc:=zx) (a:=(zw t I0 I1 m1 I2 I3 m3 I4 m4 I5 I6 m6 I7 I8 m8 I9 m9 I10).an) h (by kernel_rfl) (AV.pureB_ok rfl),ah (by kernel_rfl)⟩
def fD(f g:Int)(l:Lnk):Bool:=(l.a==f && l.b==g) || (l.b==f && l.a==g)
def cM(t:Tpl)(f g:Int):Int×Bool:=match t.ls.find? (fD f g)with
 | some l=>(if(l.a==f && l.b==g)=true then l.ca else l.cb,true)
 | none=>(0,false)
def FG(t:Tpl)(from_:Int)(to_:Int):=okL [.agg [.sl 2 (t.rs.map Rtr.v) false,.sl 5 (t.ls.map Lnk.v) false],.int from_,.int to_]
def Lu(t:Tpl)(from_:Int)(to_:Int)(t0:Int):NF:=⟨[(1,.k,.int from_),(2,.k,.int to_),(3,.k,.ref 0 0),(8,.k,.int t0)],[.box (.agg [.sl 2 (t.rs.map Rtr.v) false,.sl 5 (t.ls.map Lnk.v) false])]⟩
def Lt(t:Tpl)(from_:Int)(to_:Int)(t0:Int)(x1:Lnk)(t1:Bool):NF:=⟨[(1,.k,.int from_),(2,.k,.int to_),(3,.k,.ref 0 0),(8,.k,.int t0),(9,.k,.ref 1 0),(31,.k,.bool t1)],[.box (.agg [.sl 2 (t.rs.map Rtr.v) false,.sl 5 (t.ls.map Lnk.v) false]),.box (.agg [.int x1.a,.int x1.b,.int x1.ca,.int x1.cb,.int x1.w])]⟩
def Ls(t:Tpl)(from_:Int)(to_:Int)(t0:Int)(x1:Lnk)(t2:Bool):NF:=⟨[(1,.k,.int from_),(2,.k,.int to_),(3,.k,.ref 0 0),(8,.k,.int t0),(9,.k,.ref 1 0),(43,.k,.bool t2)],[.box (.agg [.sl 2 (t.rs.map Rtr.v) false,.sl 5 (t.ls.map Lnk.v) false]),.box (.agg [.int x1.a,.int x1.b,.int x1.ca,.int x1.cb,.int x1.w])]⟩
@[reducible] def FF:Nat→Type
 | 0=>Int
 | 1=>Bool
 | 2=>Bool
 | _=>Unit
def vR(r:Int×Bool):AV:=.tup [.int r.1,.bool r.2]
def vQ(t:Tpl)(from_:Int)(to_:Int)(I0:Int→Prop)(m0:Int→Nat)(I1:Int→Lnk→Bool→Prop)(I2:Int→Lnk→Bool→Bool→Prop):Ax Tryz.prog FF (Int×Bool):=
 (.loop 0 (Lu t from_ to_) I0 m0 ((0):Int) [0] λ(t0:Int) b0 =>
(.br 81 (decide (t0<((t.ls.map Lnk.v).length:Int))) (.el 129 Lnk.v t.ls (λR=>Rf (t.ls.map Lnk.v) (ck (decide (0≤t0)) (ck (decide (t0<(t.ls.length:Int)))
(∀x1,t.ls[t0.toNat]?=some x1 →
(R x1))))) λx1 =>
(.pass (.join 1 (Lt t from_ to_ t0 x1) (λ(t1:Bool)=>I1 t0 x1 t1) (λb1=>(.br 273 (x1.a==from_) (.bk 1 b1 ((x1.b==to_):Bool) [0,161])
(.bk 1 b1 ((false):Bool) [0,161]))) λ(t1:Bool) =>
(.br 2 t1 (.ret (x1.ca,true))
(.join 2 (Ls t from_ to_ t0 x1) (λ(t2:Bool)=>I2 t0 x1 t1 t2) (λb2=>(.br 82 (x1.b==from_) (.bk 2 b2 ((x1.a==to_):Bool) [0,1])
(.bk 2 b2 ((false):Bool) [0,1]))) λ(t2:Bool) =>
(.br 2 t2 (.ret (x1.cb,true))
(.bk 0 b0 ((W (t0+1)):Int) [0])))))))
(.ret (0,false))))
def AM(t:Tpl)(from_:Int)(to_:Int)(I0:Int→Prop)(m0:Int→Nat)(I1:Int→Lnk→Bool→Prop)(I2:Int→Lnk→Bool→Bool→Prop)(r0:Int×Bool):=(vQ t from_ to_ I0 m0 I1 I2).vp vR r0
theorem QR(t:Tpl)(f g:Int)(ok:FG t f g):∃I0 m0 I1 I2,AM t f g I0 m0 I1 I2 (cM t f g):=by
 refine⟨λi=>aG t.ls (λl=>fD f g l=false) i,λi=>t.ls.length-i.toNat,λ_ l b=>b=(l.a==f && l.b==g),λ_ l _ b=>b=(l.b==f && l.a==g),?_⟩
 simp only[FG,okU,Blk.ok,az,List.length_map]at ok
 dsimp only[AM,vQ,FF,Ax.vp,Ax.vc];simp only[vcU,rfU,List.length_map]
 refine⟨aG.zero,λi h=>⟨λc=>⟨h.idx,c,λx hx=>⟨⟨λe=>by rw[e];rfl,λe=>by rw[e];rfl⟩,?_⟩⟩,λc=>?_⟩⟩
 ·rintro _ rfl
  refine⟨λe=>?_,λe=>⟨⟨λe2=>by rw[e2];rfl,λe2=>by rw[e2];rfl⟩,?_⟩⟩
  ·rw[cM,qy h hx (by rw[fD,e];rfl)]
   simp only;rw[if_pos e]
  ·rintro _ rfl
   refine⟨λe2=>?_,λe2=>h.step (by omega) hx (by rw[fD,e,e2];rfl)⟩
   rw[cM,qy h hx (by rw[fD,e2,Bool.or_true])]
   simp only;rw[if_neg (by rw[e];simp)]
 ·rw[cM,Cr h c]
def vS(t:Tpl)(from_:Int)(to_:Int):PC Tryz.prog:=⟨38,[(.a [(.s 2),(.s 5)]),.k,.k],[.agg [.sl 2 (t.rs.map Rtr.v) false,.sl 5 (t.ls.map Lnk.v) false],.int from_,.int to_],vR (cM t from_ to_),ao.of_ok λok=>(QR t from_ to_ ok).elim λI0 h=>h.elim λm0 h=>h.elim λI1 h=>h.elim λI2 h=>aj (sh:=.k) (enc:=vR) (a:=(vQ t from_ to_ I0 m0 I1 I2).an) h (by kernel_rfl) (AV.pureB_ok rfl),ah (by kernel_rfl)⟩
def dl(t:Tpl)(r:Int):List Int:=t.rs.flatMap λx=>if(cM t r x.id).2=true then [x.id]else []
def Si(t:Tpl)(r:Int):=okL [.agg [.sl 2 (t.rs.map Rtr.v) false,.sl 5 (t.ls.map Lnk.v) false],.int r]
def Mi(t:Tpl)(r:Int)(t0:Int×List Int):NF:=⟨[(1,.k,.int r),(2,.k,.ref 0 0),(5,.k,.vec 1),(6,.k,.int t0.1)],[.box (.agg [.sl 2 (t.rs.map Rtr.v) false,.sl 5 (t.ls.map Lnk.v) false]),.vec 1 (t0.2.map AV.int) (ab (λ_=>rfl) t0.2)]⟩
@[reducible] def G9:Nat→Type
 | 0=>Int×List Int
 | _=>Unit
def wQ(r:List Int):AV:=.sl 1 (r.map AV.int) false
def wP(t:Tpl)(r:Int)(I0:(Int×List Int)→Prop)(m0:(Int×List Int)→Nat):Ax Tryz.prog G9 ((List Int)):=
 (.cmdL (.nilT 5 1) (.loop 0 (Mi t r) I0 m0 (0,[]) [0,64] λ(t0:Int×List Int) b0 =>
(.br 82 (decide (t0.1<((t.rs.map Rtr.v).length:Int))) (.el 162 Rtr.v t.rs (λR=>Rf (t.rs.map Rtr.v) (ck (decide (0≤t0.1)) (ck (decide (t0.1<(t.rs.length:Int)))
(∀x1,t.rs[t0.1.toNat]?=some x1 →
(R x1))))) λx1 =>
(.callP (vS t r x1.id)
(.br 322 ((cM t r x1.id).2) (.el 386 Rtr.v t.rs (λR=>Rf (t.rs.map Rtr.v) (ck (decide (0≤t0.1)) (ck (decide (t0.1<(t.rs.length:Int)))
(∀x2,t.rs[t0.1.toNat]?=some x2 →
(R x2))))) λx2 =>
(.say (λR=>Rf (α:=List AV) (t0.2.map AV.int) (Rf (α:=List AV) [.int x2.id]
(ck (decide (t0.2.length+1≤1048576))
R))) (.app 450 AV.int t0.2 [x2.id]
(.bk 0 b0 (W (t0.1+1),t0.2++[x2.id]) [0,450]))))
(.bk 0 b0 (W (t0.1+1),t0.2) [0,1]))))
(.say (Rf (t0.2.map AV.int)) (.cmdL (.frzE 1 (t0.2.map AV.int) (ab (λ_=>rfl) t0.2)) (.ret (t0.2)))))))
def By(t:Tpl)(r:Int)(I0:(Int×List Int)→Prop)(m0:(Int×List Int)→Nat)(r0:List Int):=(wP t r I0 m0).vp wQ r0
theorem Sg(t:Tpl)(r:Int)(h:t.rs.length≤1000)(ok:Si t r):∃I m,By t r I m (dl t r):=by
 refine⟨λs=>fI t.rs (λx=>if(cM t r x.id).2=true then [x.id]else []) s.1 s.2,λs=>t.rs.length-s.1.toNat,?_⟩
 dsimp only[By,wP,G9,Ax.vp,Ax.vc];simp only[vcU,rfU,List.length_map]
 refine⟨fI.zero,?_⟩
 rintro⟨i,out⟩ g
 simp only at g ⊢
 have hl:=g.len (b:=1) λx _=>by split<;>simp
 refine⟨λc=>⟨g.idx,c,λx hx=>?_⟩,λc=>?_⟩
 ·refine⟨λe=>⟨g.idx,c,λy hy=>⟨by omega,?_⟩⟩,λe=>g.step (by omega) hx (by rw[if_neg (by rw[e];simp)];simp)⟩
  rw[hx]at hy;cases hy
  exact g.step (by omega) hx (by rw[if_pos e])
 ·exact g.done c
def GA(t:Tpl)(r:Int)(h:t.rs.length≤1000):PC Tryz.prog:=⟨13,[(.a [(.s 2),(.s 5)]),.k],[.agg [.sl 2 (t.rs.map Rtr.v) false,.sl 5 (t.ls.map Lnk.v) false],.int r],wQ (dl t r),ao.of_ok λok=>(Sg t r h ok).elim λI0 h=>h.elim λm0 h=>aj (sh:=(.s 1)) (enc:=wQ) (a:=(wP t r I0 m0).an) h (by kernel_rfl) (AV.pureB_ok rfl),ah (by kernel_rfl)⟩
theorem iq{t:Tpl}(h:aB t=0):t.rs.length≤24∧t.ls.length≤60:=by
 unfold aB at h
 by_cases c:24<t.rs.length∨60<t.ls.length
 ·rw[if_pos c]at h;cases h
 ·omega
def hs5(t:Tpl)(r:Int):Bool:=(aB t==0) && aK t r
def hs5_a(t:Tpl)(r:Int):=okL [.agg [.sl 2 (t.rs.map Rtr.v) false,.sl 5 (t.ls.map Lnk.v) false],.int r]
def HD(r:Bool):AV:=.bool r
def HA(t:Tpl)(r:Int):Ax Tryz.prog noS (Bool):=
 (.callP (kg t)
(.br 96 ((aB t)==0) (.callP (xO t r)
(.ret (aK t r)))
(.ret (false))))
def HB(t:Tpl)(r:Int)(r0:Bool):=(HA t r).vp HD r0
theorem hs5_p(t:Tpl)(r:Int)(ok:hs5_a t r):HB t r (hs5 t r):=by
 dsimp only[HB,HA,noS,Ax.vp,Ax.vc];simp only[vcU,rfU,List.length_map]
 refine⟨λc=>?_,λc=>?_⟩<;>rw[hs5,c]<;>rfl
def nG(t:Tpl)(r:Int):PC Tryz.prog:=⟨68,[(.a [(.s 2),(.s 5)]),.k],[.agg [.sl 2 (t.rs.map Rtr.v) false,.sl 5 (t.ls.map Lnk.v) false],.int r],HD (hs5 t r),ao.of_ok λok=>aj (sh:=.k) (enc:=HD) (a:=(HA t r).an) (hs5_p t r ok) (by kernel_rfl) (AV.pureB_ok rfl),ah (by kernel_rfl)⟩
def qS(t:Tpl)(f g:Int):Int×Bool:=if aB t≠0 then(0,false)else cM t f g
theorem P5(i j:Nat)(h:i≤j)(hj:j≤1000000):W ((IntKind.u64.wrap (W ((i:Int)+j))).fdiv 2)=(((i+j) / 2:Nat):Int):=by
 have e1:W ((i:Int)+j)=((i+j:Nat):Int):=cn ⟨by omega,by omega⟩
 rw[e1]
 have e2:IntKind.u64.wrap ((i+j:Nat):Int)=((i+j:Nat):Int):=by simp[IntKind.wrap,IntKind.signed,IntKind.bits];omega
 rw[e2,show Int.fdiv ((i+j:Nat):Int) 2=(((i+j) / 2:Nat):Int) by rw[Int.fdiv_eq_ediv_of_nonneg _ (by omega)];rfl]
 exact cn ⟨by omega,by omega⟩
theorem lf(x y:Int):cmpI x y<0↔x<y:=by
 unfold cmpI;split
 ·simp_all
 ·split<;>simp_all
theorem jB(x y:Int):cmpI x y=0↔x=y:=by
 unfold cmpI;split
 ·simp;omega
 ·split
  ·simp;omega
  ·simp;omega
def bsI{α:Type}(lt:α→Bool)(l:List α):Nat→Nat→Nat→Nat
 | 0,i,_=>i
 | f+1,i,j=>if i<j then(match l[(i+j) / 2]? with
  | some x=>if lt x=true then bsI lt l f ((i+j) / 2+1) j else bsI lt l f i ((i+j) / 2)
  | none=>i)else i
theorem fX{α:Type}{lt:α→Bool}{l:List α}:∀{f g i j:Nat},j-i≤f→j-i≤g→bsI lt l f i j=bsI lt l g i j
 | 0,0,i,j,_,_=>rfl
 | 0,g+1,i,j,h,_=>by rw[bsI,bsI,if_neg (by omega)]
 | f+1,0,i,j,_,h=>by rw[bsI,bsI,if_neg (by omega)]
 | f+1,g+1,i,j,h,h'=>by
  rw[bsI,bsI]
  split
  ·split
   ·split
    ·exact fX (by omega) (by omega)
    ·exact fX (by omega) (by omega)
   ·rfl
  ·rfl
def bsP{α:Type}(lt:α→Bool)(l:List α):Nat:=bsI lt l l.length 0 l.length
def bsH{α:Type}(lt eq:α→Bool)(l:List α):Bool:=(l[bsP lt l]?).any eq
theorem mM{α:Type}{lt:α→Bool}{l:List α}(hm:∀(a b:Nat) x y,a<b→l[a]?=some x→l[b]?=some y→lt y=true→lt x=true):∀{f i j:Nat},j-i≤f→i≤j→j≤l.length →
  (∀k x,k<i→l[k]?=some x→lt x=true)→(∀k x,j≤k→l[k]?=some x→lt x=false)→(∀k x,k<bsI lt l f i j→l[k]?=some x→lt x=true)∧(∀k x,bsI lt l f i j≤k→l[k]?=some x→lt x=false)∧bsI lt l f i j≤l.length
 | 0,i,j,h,hij,hj,h1,h2=>by
  obtain rfl:i=j:=by omega
  rw[bsI];exact⟨h1,h2,hj⟩
 | f+1,i,j,h,hij,hj,h1,h2=>by
  rw[bsI]
  by_cases hlt:i<j
  ·have hx:=List.getElem?_eq_getElem (show(i+j) / 2<l.length by omega)
   generalize l[(i+j) / 2]=x at hx
   rw[if_pos hlt,hx]
   by_cases e:lt x=true
   ·simp only[e,if_true]
    refine mM hm (by omega) (by omega) hj (λk y hk hy=>?_) h2
    by_cases e':k=(i+j) / 2
    ·subst e';rw[hx]at hy;cases hy;exact e
    ·exact hm k _ y x (by omega) hy hx e
   ·simp only[e,if_false,Bool.false_eq_true]
    refine mM hm (by omega) (by omega) (by omega) h1 (λk y hk hy=>?_)
    by_cases e':k=(i+j) / 2
    ·subst e';rw[hx]at hy;cases hy;simpa using e
    ·cases q:lt y
     ·rfl
     ·exact absurd (hm _ k x y (by omega) hx hy q) e
  ·obtain rfl:i=j:=by omega
   rw[if_neg hlt];exact⟨h1,h2,hj⟩
theorem Dc{α:Type}{lt eq:α→Bool}{l:List α}(hm:∀(a b:Nat) x y,a<b→l[a]?=some x→l[b]?=some y→lt y=true→lt x=true)(he:∀x,eq x=true→lt x=false)
  (h2:∀(a b:Nat) x y,a<b→l[a]?=some x→l[b]?=some y→eq y=true→lt x=true):(bsH lt eq l=l.any eq)∧∀x∈l,eq x=true→l[bsP lt l]?=some x:=by
 obtain⟨s1,s2,s3⟩:=mM hm (f:=l.length) (i:=0) (j:=l.length) (by omega) (by omega) (Nat.le_refl _) (λk x hk=>by omega) (λk x hk hx=>by have:=ap hx;omega)
 have key:∀x∈l,eq x=true→l[bsP lt l]?=some x:=λx hx e=>by
  obtain⟨k,hk⟩:=List.mem_iff_getElem?.mp hx
  have h3:bsP lt l≤k:=Nat.le_of_not_lt λh=>by
   have:=s1 k x h hk;rw[he x e]at this;cases this
  by_cases e':bsP lt l=k
  ·rw[e'];exact hk
  ·have hl:=ap hk
   have hy:=List.getElem?_eq_getElem (show bsP lt l<l.length by omega)
   have a:=h2 _ k _ x (by omega) hy hk e
   have b:=s2 _ _ (Nat.le_refl _) hy
   rw[a]at b;cases b
 refine⟨?_,key⟩
 rw[Bool.eq_iff_iff,List.any_eq_true,bsH]
 constructor
 ·intro h
  cases q:l[bsP lt l]? with
  | none=>rw[q]at h;cases h
  | some x=>rw[q]at h;exact⟨x,List.mem_of_getElem? q,h⟩
 ·rintro⟨x,hx,e⟩
  rw[key x hx e];exact e
def inT(n a b:Int):Bool:=decide (a≤n) && decide (n≤b)
def inT_a(n:Int)(least:Int)(most:Int):=okL [.int n,.int least,.int most]
def Hy(r:Bool):AV:=.bool r
def Hw(n:Int)(least:Int)(most:Int):Ax Tryz.prog noS (Bool):=
 (.br 80 (decide (least≤n)) (.ret (decide (n≤most)))
(.ret (false)))
def Hx(n:Int)(least:Int)(most:Int)(r0:Bool):=(Hw n least most).vp Hy r0
theorem inT_p(n a b:Int)(ok:inT_a n a b):Hx n a b (inT n a b):=by
 dsimp only[Hx,Hw,noS,Ax.vp,Ax.vc];simp only[vcU,rfU,List.length_map]
 unfold inT
 exact⟨λh=>by simp[h],λh=>by simp[h]⟩
def BP(n:Int)(least:Int)(most:Int):PC Tryz.prog:=⟨96,[.k,.k,.k],[.int n,.int least,.int most],Hy (inT n least most),ao.of_ok λok=>aj (sh:=.k) (enc:=Hy) (a:=(Hw n least most).an) (inT_p n least most ok) (by kernel_rfl) (AV.pureB_ok rfl),ah (by kernel_rfl)⟩
def byI(r:Rtr)(id:Int):Int:=cmpI r.id id
def byI_a(r:Rtr)(id:Int):=okL [.agg [.int r.id,.bool r.cap],.int id]
def J1(r:Int):AV:=.int r
def Jz(r:Rtr)(id:Int):Ax Tryz.prog noS (Int):=
 (.callP (zn r.id id)
(.ret (cmpI r.id id)))
def J0(r:Rtr)(id:Int)(r0:Int):=(Jz r id).vp J1 r0
theorem byI_p(r:Rtr)(id:Int)(ok:byI_a r id):J0 r id (byI r id):=by
 dsimp only[J0,Jz,noS,Ax.vp,Ax.vc];simp only[vcU,rfU,List.length_map]
 rfl
def PD(r:Rtr)(id:Int):PC Tryz.prog:=⟨99,[.k,.k],[.agg [.int r.id,.bool r.cap],.int id],J1 (byI r id),ao.of_ok λok=>aj (sh:=.k) (enc:=J1) (a:=(Jz r id).an) (byI_p r id ok) (by kernel_rfl) (AV.pureB_ok rfl),ah (by kernel_rfl)⟩
def ltR(r:Int)(x:Rtr):Bool:=decide (x.id<r)
def eqR(r:Int)(x:Rtr):Bool:=x.id==r
def FO(l:List Rtr)(r:Int):Nat:=bsP (ltR r) l
def xH(l:List Rtr)(r:Int):Bool:=bsH (ltR r) (eqR r) l
def PF(x:List Rtr)(target:Int):=okL [.sl 2 (x.map Rtr.v) false,.int target,.func 99 []]
def UE(x:List Rtr)(target:Int)(t0:Int×Int):NF:=⟨[(0,.k,.sl 2 (x.map Rtr.v) false),(1,.k,.int target),(2,.k,.func 99 []),(8,.k,.int ((x.map Rtr.v).length:Int)),(9,.k,.int t0.1),(10,.k,.int t0.2)],[]⟩
@[reducible] def PE:Nat→Type
 | 0=>Int×Int
 | _=>Unit
def J8(r:Int×Bool):AV:=.tup [.int r.1,.bool r.2]
def J6(x:List Rtr)(target:Int)(I0:(Int×Int)→Prop)(m0:(Int×Int)→Nat):Ax Tryz.prog PE (Int×Bool):=
 (.loop 0 (UE x target) I0 m0 (0,((x.map Rtr.v).length:Int)) [] λ(t0:Int×Int) b0 =>
(.br 48 (decide (t0.1<t0.2)) (.el 208 Rtr.v x (λR=>Rf (x.map Rtr.v) (ck (decide (0≤(W (Int.fdiv (IntKind.u64.wrap (W (t0.1+t0.2))) 2)))) (ck (decide ((W (Int.fdiv (IntKind.u64.wrap (W (t0.1+t0.2))) 2))<(x.length:Int)))
(∀x1,x[(W (Int.fdiv (IntKind.u64.wrap (W (t0.1+t0.2))) 2)).toNat]?=some x1 →
(R x1))))) λx1 =>
(.callP (PD x1 target)
(.br 288 (decide ((byI x1 target)<0)) (.bk 0 b0 (W ((W (Int.fdiv (IntKind.u64.wrap (W (t0.1+t0.2))) 2))+1),t0.2) [])
(.bk 0 b0 (t0.1,W (Int.fdiv (IntKind.u64.wrap (W (t0.1+t0.2))) 2)) []))))
(.br 128 (decide (t0.1<((x.map Rtr.v).length:Int))) (.el 176 Rtr.v x (λR=>Rf (x.map Rtr.v) (ck (decide (0≤t0.1)) (ck (decide (t0.1<(x.length:Int)))
(∀x2,x[t0.1.toNat]?=some x2 →
(R x2))))) λx2 =>
(.callP (PD x2 target)
(.ret (t0.1,(byI x2 target)==0))))
(.ret (t0.1,false)))))
def J7(x:List Rtr)(target:Int)(I0:(Int×Int)→Prop)(m0:(Int×Int)→Nat)(r0:Int×Bool):=(J6 x target I0 m0).vp J8 r0
theorem bsR_p(x:List Rtr)(r:Int)(hl:x.length≤1000000)(ok:PF x r):∃I m,J7 x r I m ((FO x r:Int),xH x r):=by
 refine⟨λt=>∃i j:Nat,t=((i:Int),(j:Int))∧i≤j∧j≤x.length∧bsI (ltR r) x (j-i) i j=bsP (ltR r) x,λt=>(t.2-t.1).toNat,?_⟩
 simp only[PF,okU,Blk.ok,az,List.length_map]at ok
 dsimp only[J7,J6,PE,Ax.vp,Ax.vc];simp only[vcU,rfU,List.length_map]
 refine⟨⟨0,x.length,rfl,by omega,by omega,rfl⟩,?_⟩
 rintro _ ⟨i,j,rfl,hij,hj,h1⟩
 refine⟨λh3=>?_,λh3=>?_⟩
 ·have h3:i<j:=by simpa using h3
  simp only[P5 i j hij (by omega),Int.toNat_natCast]
  obtain⟨d,hd⟩:∃d,j-i=d+1:=⟨j-i-1,by omega⟩
  rw[hd,bsI,if_pos h3]at h1
  refine⟨by omega,by omega,λy hy=>⟨λe=>?_,λe=>?_⟩⟩
  ·rw[hy]at h1
   simp only[show ltR r y=true from decide_eq_true ((lf _ _).mp e),if_true]at h1
   rw[fX (g:=j-((i+j) / 2+1)) (by omega) (by omega)]at h1
   rw[aU (n:=x.length) (by omega) (by omega)]
   exact⟨⟨_,_,rfl,by omega,hj,h1⟩,by omega⟩
  ·rw[hy]at h1
   simp only[show ltR r y=false from decide_eq_false (λq=>e ((lf _ _).mpr q)),if_false,Bool.false_eq_true]at h1
   rw[fX (g:=(i+j) / 2-i) (by omega) (by omega)]at h1
   exact⟨⟨_,_,rfl,by omega,by omega,h1⟩,by omega⟩
 ·have h3:i=j:=by simp at h3;omega
  subst h3
  rw[Nat.sub_self,bsI]at h1
  simp only[Int.toNat_natCast]
  refine⟨λh4=>⟨by omega,by omega,λy hy=>?_⟩,λh4=>?_⟩
  ·unfold FO xH bsH
   rw[←h1,hy]
   refine congrArg _ ?_
   show decide _=eqR r y
   rw[Bool.eq_iff_iff,decide_eq_true_iff]
   simp[byI,jB,eqR]
  ·unfold FO xH bsH
   rw[←h1,List.getElem?_eq_none (by omega)];rfl
def bsR_c(x:List Rtr)(target:Int)(hl:x.length≤1000000):PC Tryz.prog:=⟨98,[(.s 2),.k,.k],[.sl 2 (x.map Rtr.v) false,.int target,.func 99 []],J8 ((FO x target:Int),xH x target),ao.of_ok λok=>(bsR_p x target hl ok).elim λI0 h=>h.elim λm0 h=>aj (sh:=.k) (enc:=J8) (a:=(J6 x target I0 m0).an) h (by kernel_rfl) (AV.pureB_ok rfl),ah (by kernel_rfl)⟩
def P2(vals:List Int):=okL [.sl 1 (vals.map AV.int) false]
def RE(vals:List Int)(t0:Int):NF:=⟨[(3,.k,.int 0),(6,.k,.sl 1 (vals.map AV.int) false),(7,.k,.int ((vals.map AV.int).length:Int)),(8,.k,.int t0)],[]⟩
@[reducible] def Pz:Nat→Type
 | 0=>Int
 | _=>Unit
def Gs(r:Int):AV:=.int r
def Gq(vals:List Int)(I0:Int→Prop)(m0:Int→Nat):Ax Tryz.prog Pz (Int):=
 (.loop 0 (RE vals) I0 m0 ((0):Int) [] λ(t0:Int) b0 =>
(.br 16 (decide (t0<((vals.map AV.int).length:Int))) (.el 16 AV.int vals (λR=>Rf (vals.map AV.int) (ck (decide (0≤t0)) (ck (decide (t0<(vals.length:Int)))
(∀x1,vals[t0.toNat]?=some x1 →
(R x1))))) λx1 =>
(.br 112 (x1 != 0) (.ret (x1))
(.bk 0 b0 ((W (t0+1)):Int) [])))
(.ret (0))))
def Gr(vals:List Int)(I0:Int→Prop)(m0:Int→Nat)(r0:Int):=(Gq vals I0 m0).vp Gs r0
theorem orN_p(vals:List Int)(ok:P2 vals):∃I m,Gr vals I m (orI vals):=by
 simp only[P2,okU,Blk.ok,az,List.length_map]at ok
 refine⟨λt=>∃k:Nat,t=k∧k≤vals.length∧(vals.take k).all (·==0),λt=>vals.length-t.toNat,?_⟩
 dsimp only[Gr,Gq,Pz,Ax.vp,Ax.vc];simp only[vcU,rfU,List.length_map]
 refine⟨⟨0,rfl,by omega,by simp⟩,?_⟩
 rintro _ ⟨k,rfl,hk,h⟩
 refine⟨λh1=>⟨by omega,by omega,λx hx=>⟨λhn=>?_,λhn=>?_⟩⟩,λh1=>?_⟩
 ·rw[Int.toNat_natCast]at hx
  rw[orI,DR h hx (by simpa using hn)];rfl
 ·rw[Int.toNat_natCast]at hx
  have hlt:=ap hx
  rw[aU (n:=vals.length) (by omega) (by omega)]
  refine⟨⟨k+1,rfl,by omega,?_⟩,by omega⟩
  rw[aO hx,List.all_append,h];simpa using hn
 ·rw[List.take_of_length_le (by omega)]at h
  rw[orI,List.find?_eq_none.mpr]
  ·rfl
  ·intro x hx;simpa using List.all_eq_true.mp h x hx
def orN_c(vals:List Int):PC Tryz.prog:=⟨156,[(.s 1)],[.sl 1 (vals.map AV.int) false],Gs (orI vals),ao.of_ok λok=>(orN_p vals ok).elim λI0 h=>h.elim λm0 h=>aj (sh:=.k) (enc:=Gs) (a:=(Gq vals I0 m0).an) h (by kernel_rfl) (AV.pureB_ok rfl),ah (by kernel_rfl)⟩
def re(x y:Lnk):Int:=orI [cmpI x.a y.a,cmpI x.b y.b]
def Uu(a:Lnk)(b:Lnk):=okL [.agg [.int a.a,.int a.b,.int a.ca,.int a.cb,.int a.w],.agg [.int b.a,.int b.b,.int b.ca,.int b.cb,.int b.w]]
def zj(r:Int):AV:=.int r
def zi(a:Lnk)(b:Lnk):Ax Tryz.prog noS (Int):=
 (.callP (zn a.a b.a)
(.callP (zn a.b b.b)
(.callP (orN_c [cmpI a.a b.a,cmpI a.b b.b])
(.ret (orI [cmpI a.a b.a,cmpI a.b b.b])))))
def CO(a:Lnk)(b:Lnk)(r0:Int):=(zi a b).vp zj r0
theorem Ut(x y:Lnk)(ok:Uu x y):CO x y (re x y):=by
 dsimp only[CO,zi,noS,Ax.vp,Ax.vc];simp only[vcU,rfU,List.length_map]
 rfl
def zk(a:Lnk)(b:Lnk):PC Tryz.prog:=⟨104,[.k,.k],[.agg [.int a.a,.int a.b,.int a.ca,.int a.cb,.int a.w],.agg [.int b.a,.int b.b,.int b.ca,.int b.cb,.int b.w]],zj (re a b),ao.of_ok λok=>aj (sh:=.k) (enc:=zj) (a:=(zi a b).an) (Ut a b ok) (by kernel_rfl) (AV.pureB_ok rfl),ah (by kernel_rfl)⟩
theorem ur(x y:Lnk):re x y=if x.a=y.a then cmpI x.b y.b else cmpI x.a y.a:=by
 unfold re orI
 by_cases e:x.a=y.a
 ·rw[if_pos e,(jB _ _).mpr e]
  by_cases e2:cmpI x.b y.b=0
  ·simp[e2]
  ·simp[e2]
 ·have:cmpI x.a y.a≠0:=λh=>e ((jB _ _).mp h)
  rw[if_neg e];simp[this]
theorem ld(x y:Lnk):re x y<0↔cP x y:=by
 rw[ur];unfold cP
 split
 ·rw[lf];omega
 ·rw[lf];omega
theorem Of(x y:Lnk):re x y=0↔x.a=y.a∧x.b=y.b:=by
 rw[ur]
 split
 ·rw[jB];omega
 ·rw[jB];omega
def pT(y x:Lnk):Bool:=decide (cP x y)
def ng(y x:Lnk):Bool:=decide (x.a=y.a∧x.b=y.b)
def iN(l:List Lnk)(y:Lnk):Nat:=bsP (pT y) l
def jV(l:List Lnk)(y:Lnk):Bool:=bsH (pT y) (ng y) l
def PH(x:List Lnk)(target:Lnk):=okL [.sl 5 (x.map Lnk.v) false,.agg [.int target.a,.int target.b,.int target.ca,.int target.cb,.int target.w],.func 104 []]
def UF(x:List Lnk)(target:Lnk)(t0:Int×Int):NF:=⟨[(0,.k,.sl 5 (x.map Lnk.v) false),(2,.k,.func 104 []),(4,.k,.ref 0 0),(8,.k,.int ((x.map Lnk.v).length:Int)),(9,.k,.int t0.1),(10,.k,.int t0.2)],[.box (.agg [.int target.a,.int target.b,.int target.ca,.int target.cb,.int target.w])]⟩
@[reducible] def PG:Nat→Type
 | 0=>Int×Int
 | _=>Unit
def JB(r:Int×Bool):AV:=.tup [.int r.1,.bool r.2]
def J9(x:List Lnk)(target:Lnk)(I0:(Int×Int)→Prop)(m0:(Int×Int)→Nat):Ax Tryz.prog PG (Int×Bool):=
 (.loop 0 (UF x target) I0 m0 (0,((x.map Lnk.v).length:Int)) [0] λ(t0:Int×Int) b0 =>
(.br 49 (decide (t0.1<t0.2)) (.el 209 Lnk.v x (λR=>Rf (x.map Lnk.v) (ck (decide (0≤(W (Int.fdiv (IntKind.u64.wrap (W (t0.1+t0.2))) 2)))) (ck (decide ((W (Int.fdiv (IntKind.u64.wrap (W (t0.1+t0.2))) 2))<(x.length:Int)))
(∀x1,x[(W (Int.fdiv (IntKind.u64.wrap (W (t0.1+t0.2))) 2)).toNat]?=some x1 →
(R x1))))) λx1 =>
(.callP (zk x1 target)
(.br 289 (decide ((re x1 target)<0)) (.bk 0 b0 (W ((W (Int.fdiv (IntKind.u64.wrap (W (t0.1+t0.2))) 2))+1),t0.2) [0])
(.bk 0 b0 (t0.1,W (Int.fdiv (IntKind.u64.wrap (W (t0.1+t0.2))) 2)) [0]))))
(.br 129 (decide (t0.1<((x.map Lnk.v).length:Int))) (.el 177 Lnk.v x (λR=>Rf (x.map Lnk.v) (ck (decide (0≤t0.1)) (ck (decide (t0.1<(x.length:Int)))
(∀x2,x[t0.1.toNat]?=some x2 →
(R x2))))) λx2 =>
(.callP (zk x2 target)
(.ret (t0.1,(re x2 target)==0))))
(.ret (t0.1,false)))))
def JA(x:List Lnk)(target:Lnk)(I0:(Int×Int)→Prop)(m0:(Int×Int)→Nat)(r0:Int×Bool):=(J9 x target I0 m0).vp JB r0
theorem bsL_p(x:List Lnk)(r:Lnk)(hl:x.length≤1000000)(ok:PH x r):∃I m,JA x r I m ((iN x r:Int),jV x r):=by
 refine⟨λt=>∃i j:Nat,t=((i:Int),(j:Int))∧i≤j∧j≤x.length∧bsI (pT r) x (j-i) i j=bsP (pT r) x,λt=>(t.2-t.1).toNat,?_⟩
 simp only[PH,okU,Blk.ok,az,List.length_map]at ok
 dsimp only[JA,J9,PG,Ax.vp,Ax.vc];simp only[vcU,rfU,List.length_map]
 refine⟨⟨0,x.length,rfl,by omega,by omega,rfl⟩,?_⟩
 rintro _ ⟨i,j,rfl,hij,hj,h1⟩
 refine⟨λh3=>?_,λh3=>?_⟩
 ·have h3:i<j:=by simpa using h3
  simp only[P5 i j hij (by omega),Int.toNat_natCast]
  obtain⟨d,hd⟩:∃d,j-i=d+1:=⟨j-i-1,by omega⟩
  rw[hd,bsI,if_pos h3]at h1
  refine⟨by omega,by omega,λy hy=>⟨λe=>?_,λe=>?_⟩⟩
  ·rw[hy]at h1
   simp only[show pT r y=true from decide_eq_true ((ld _ _).mp e),if_true]at h1
   rw[fX (g:=j-((i+j) / 2+1)) (by omega) (by omega)]at h1
   rw[aU (n:=x.length) (by omega) (by omega)]
   exact⟨⟨_,_,rfl,by omega,hj,h1⟩,by omega⟩
  ·rw[hy]at h1
   simp only[show pT r y=false from decide_eq_false (λq=>e ((ld _ _).mpr q)),if_false,Bool.false_eq_true]at h1
   rw[fX (g:=(i+j) / 2-i) (by omega) (by omega)]at h1
   exact⟨⟨_,_,rfl,by omega,by omega,h1⟩,by omega⟩
 ·have h3:i=j:=by simp at h3;omega
  subst h3
  rw[Nat.sub_self,bsI]at h1
  simp only[Int.toNat_natCast]
  refine⟨λh4=>⟨by omega,by omega,λy hy=>?_⟩,λh4=>?_⟩
  ·unfold iN jV bsH
   rw[←h1,hy]
   refine congrArg _ ?_
   show decide _=ng r y
   rw[Bool.eq_iff_iff,decide_eq_true_iff]
   simp[Of,ng]
  ·unfold iN jV bsH
   rw[←h1,List.getElem?_eq_none (by omega)];rfl
def bsL_c(x:List Lnk)(target:Lnk)(hl:x.length≤1000000):PC Tryz.prog:=⟨125,[(.s 5),.k,.k],[.sl 5 (x.map Lnk.v) false,.agg [.int target.a,.int target.b,.int target.ca,.int target.cb,.int target.w],.func 104 []],JB ((iN x target:Int),jV x target),ao.of_ok λok=>(bsL_p x target hl ok).elim λI0 h=>h.elim λm0 h=>aj (sh:=.k) (enc:=JB) (a:=(J9 x target I0 m0).an) h (by kernel_rfl) (AV.pureB_ok rfl),ah (by kernel_rfl)⟩
def jk(r:Rtr):Bool:=!inT r.id 1 99
def QL(r:Rtr):=okL [.agg [.int r.id,.bool r.cap]]
def vI(r:Bool):AV:=.bool r
def vH(r:Rtr):Ax Tryz.prog noS (Bool):=
 (.callP (BP r.id 1 99)
(.ret (!(inT r.id 1 99))))
def AG(r:Rtr)(r0:Bool):=(vH r).vp vI r0
theorem QJ(r:Rtr)(ok:QL r):AG r (jk r):=by
 dsimp only[AG,vH,noS,Ax.vp,Ax.vc];simp only[vcU,rfU,List.length_map]
 rfl
def QK(r:Rtr):PC Tryz.prog:=⟨95,[.k],[.agg [.int r.id,.bool r.cap]],vI (jk r),ao.of_ok λok=>aj (sh:=.k) (enc:=vI) (a:=(vH r).an) (QJ r ok) (by kernel_rfl) (AV.pureB_ok rfl),ah (by kernel_rfl)⟩
def j9(l:Lnk):Bool:=!inT l.ca 1 1000 || (!inT l.cb 1 1000 || !inT l.w 0 1000)
def Ub(l:Lnk):=okL [.agg [.int l.a,.int l.b,.int l.ca,.int l.cb,.int l.w]]
def yO(r:Bool):AV:=.bool r
def yN(l:Lnk):Ax Tryz.prog noS (Bool):=
 (.callP (BP l.ca 1 1000)
(.br 112 (!(inT l.ca 1 1000)) (.ret (true))
(.callP (BP l.cb 1 1000)
(.br 208 (!(inT l.cb 1 1000)) (.ret (true))
(.callP (BP l.w 0 1000)
(.ret (!(inT l.w 0 1000))))))))
def CA(l:Lnk)(r0:Bool):=(yN l).vp yO r0
theorem TY(l:Lnk)(ok:Ub l):CA l (j9 l):=by
 dsimp only[CA,yN,noS,Ax.vp,Ax.vc];simp only[vcU,rfU,List.length_map]
 unfold j9
 exact⟨λh=>by rw[h];rfl,λh=>⟨λh2=>by rw[h,h2];rfl,λh2=>by rw[h,h2];rfl⟩⟩
def Ua(l:Lnk):PC Tryz.prog:=⟨101,[.k],[.agg [.int l.a,.int l.b,.int l.ca,.int l.cb,.int l.w]],yO (j9 l),ao.of_ok λok=>aj (sh:=.k) (enc:=yO) (a:=(yN l).an) (TY l ok) (by kernel_rfl) (AV.pureB_ok rfl),ah (by kernel_rfl)⟩
def kr(l:Lnk):Bool:=decide (l.b≤l.a)
def Vf(l:Lnk):=okL [.agg [.int l.a,.int l.b,.int l.ca,.int l.cb,.int l.w]]
def zU(r:Bool):AV:=.bool r
def zT(l:Lnk):Ax Tryz.prog noS (Bool):=
 (.ret (decide (l.b≤l.a)))
def Dm(l:Lnk)(r0:Bool):=(zT l).vp zU r0
theorem Vd(l:Lnk)(ok:Vf l):Dm l (kr l):=by
 dsimp only[Dm,zT,noS,Ax.vp,Ax.vc];simp only[vcU,rfU,List.length_map]
 rfl
def Ve(l:Lnk):PC Tryz.prog:=⟨103,[.k],[.agg [.int l.a,.int l.b,.int l.ca,.int l.cb,.int l.w]],zU (kr l),ao.of_ok λok=>aj (sh:=.k) (enc:=zU) (a:=(zT l).an) (Vd l ok) (by kernel_rfl) (AV.pureB_ok rfl),ah (by kernel_rfl)⟩
def vj(id:Int)(t:Tpl):Bool:=!xH t.rs id
def Qo(id:Int)(t:Tpl):=okL [.int id,.rptr (.agg [.sl 2 (t.rs.map Rtr.v) false,.sl 5 (t.ls.map Lnk.v) false]) 0]
def vh(r:Bool):AV:=.bool r
def vg(id:Int)(t:Tpl):Ax Tryz.prog noS (Bool):=
 (.req 64 (t.rs.length≤1000000) λh1 =>
(.callP (bsR_c t.rs id h1)
(.ret (!(xH t.rs id)))))
def Ar(id:Int)(t:Tpl)(r0:Bool):=(vg id t).vp vh r0
theorem Qn(id:Int)(t:Tpl)(hl:t.rs.length≤1000000)(ok:Qo id t):Ar id t (vj id t):=by
 dsimp only[Ar,vg,noS,Ax.vp,Ax.vc];simp only[vcU,rfU,List.length_map]
 exact⟨hl,rfl⟩
def EI(id:Int)(t:Tpl)(hl:t.rs.length≤1000000):PC Tryz.prog:=⟨97,[.k,.k],[.int id,.rptr (.agg [.sl 2 (t.rs.map Rtr.v) false,.sl 5 (t.ls.map Lnk.v) false]) 0],vh (vj id t),ao.of_ok λok=>aj (sh:=.k) (enc:=vh) (a:=(vg id t).an) (Qn id t hl ok) (by kernel_rfl) (AV.pureB_ok rfl),ah (by kernel_rfl)⟩
def gJ(l:Lnk)(t:Tpl):Bool:=vj l.a t || vj l.b t
def Qm(l:Lnk)(t:Tpl):=okL [.agg [.int l.a,.int l.b,.int l.ca,.int l.cb,.int l.w],.rptr (.func 97 [.rptr (.agg [.sl 2 (t.rs.map Rtr.v) false,.sl 5 (t.ls.map Lnk.v) false]) 0]) 0]
def ve(r:Bool):AV:=.bool r
def vd(l:Lnk)(t:Tpl):Ax Tryz.prog noS (Bool):=
 (.req 80 (t.rs.length≤1000000) λh1 =>
(.callP (EI l.a t h1)
(.br 112 (vj l.a t) (.ret (true))
(.req 160 (t.rs.length≤1000000) λh2 =>
(.callP (EI l.b t h2)
(.ret (vj l.b t)))))))
def Al(l:Lnk)(t:Tpl)(r0:Bool):=(vd l t).vp ve r0
theorem Qk(l:Lnk)(t:Tpl)(hl:t.rs.length≤1000000)(ok:Qm l t):Al l t (gJ l t):=by
 dsimp only[Al,vd,noS,Ax.vp,Ax.vc];simp only[vcU,rfU,List.length_map]
 exact⟨hl,λh=>by unfold gJ;rw[h];rfl,λh=>⟨hl,by unfold gJ;rw[h];rfl⟩⟩
def Ql(l:Lnk)(t:Tpl)(hl:t.rs.length≤1000000):PC Tryz.prog:=⟨102,[.k,.k],[.agg [.int l.a,.int l.b,.int l.ca,.int l.cb,.int l.w],.rptr (.func 97 [.rptr (.agg [.sl 2 (t.rs.map Rtr.v) false,.sl 5 (t.ls.map Lnk.v) false]) 0]) 0],ve (gJ l t),ao.of_ok λok=>aj (sh:=.k) (enc:=ve) (a:=(vd l t).an) (Qk l t hl ok) (by kernel_rfl) (AV.pureB_ok rfl),ah (by kernel_rfl)⟩
def AI(s:List Rtr):=okL [.sl 2 (s.map Rtr.v) false,.func 95 []]
def Fv(s:List Rtr)(t0:Int):NF:=⟨[(0,.k,.sl 2 (s.map Rtr.v) false),(1,.k,.func 95 []),(7,.k,.int ((s.map Rtr.v).length:Int)),(8,.k,.int t0)],[]⟩
@[reducible] def AH:Nat→Type
 | 0=>Int
 | _=>Unit
def oO(r:Int):AV:=.int r
def oN(s:List Rtr)(I0:Int→Prop)(m0:Int→Nat):Ax Tryz.prog AH (Int):=
 (.loop 0 (Fv s) I0 m0 ((0):Int) [] λ(t0:Int) b0 =>
(.br 16 (decide (t0<((s.map Rtr.v).length:Int))) (.el 96 Rtr.v s (λR=>Rf (s.map Rtr.v) (ck (decide (0≤t0)) (ck (decide (t0<(s.length:Int)))
(∀x1,s[t0.toNat]?=some x1 →
(R x1))))) λx1 =>
(.callP (QK x1)
(.br 144 (jk x1) (.ret (t0))
(.bk 0 b0 ((W (t0+1)):Int) []))))
(.ret (-1))))
def sg(s:List Rtr)(I0:Int→Prop)(m0:Int→Nat)(r0:Int):=(oN s I0 m0).vp oO r0
theorem Lf(s:List Rtr)(ok:AI s):∃I m,sg s I m (ci jk s):=by
 refine⟨λt=>aG s (λy=>jk y=false) t,λt=>s.length-t.toNat,?_⟩
 simp only[AI,okU,Blk.ok,az,List.length_map]at ok
 dsimp only[sg,oN,AH,Ax.vp,Ax.vc];simp only[vcU,rfU,List.length_map]
 exact⟨aG.zero,λt h=>⟨λc=>⟨h.idx,c,λx hx=>⟨λq=>h.found hx q,λq=>h.step (by omega) hx q⟩⟩,λc=>h.lost c⟩⟩
def Lg(s:List Rtr):PC Tryz.prog:=⟨153,[(.s 2),.k],[.sl 2 (s.map Rtr.v) false,.func 95 []],oO (ci jk s),ao.of_ok λok=>(Lf s ok).elim λI0 h=>h.elim λm0 h=>aj (sh:=.k) (enc:=oO) (a:=(oN s I0 m0).an) h (by kernel_rfl) (AV.pureB_ok rfl),ah (by kernel_rfl)⟩
def Lj(s:List Rtr):=okL [.sl 2 (s.map Rtr.v) false,.func 95 []]
def oQ(r:Bool):AV:=.bool r
def oP(s:List Rtr):Ax Tryz.prog noS (Bool):=
 (.callP (Lg s)
(.ret (decide (0≤(ci jk s)))))
def si(s:List Rtr)(r0:Bool):=(oP s).vp oQ r0
theorem Lh(s:List Rtr)(ok:Lj s):si s (s.any jk):=by
 dsimp only[si,oP,noS,Ax.vp,Ax.vc];simp only[vcU,rfU,List.length_map]
 exact dc _ _
def Li(s:List Rtr):PC Tryz.prog:=⟨94,[(.s 2),.k],[.sl 2 (s.map Rtr.v) false,.func 95 []],oQ (s.any jk),ao.of_ok λok=>aj (sh:=.k) (enc:=oQ) (a:=(oP s).an) (Lh s ok) (by kernel_rfl) (AV.pureB_ok rfl),ah (by kernel_rfl)⟩
def kh(r:Rtr):Bool:=!r.cap
def UA(r:Rtr):=okL [.agg [.int r.id,.bool r.cap]]
def zB(r:Bool):AV:=.bool r
def zA(r:Rtr):Ax Tryz.prog noS (Bool):=
 (.ret (!r.cap))
def CX(r:Rtr)(r0:Bool):=(zA r).vp zB r0
theorem U8(r:Rtr)(ok:UA r):CX r (kh r):=by
 dsimp only[CX,zA,noS,Ax.vp,Ax.vc];simp only[vcU,rfU,List.length_map]
 rfl
def U9(r:Rtr):PC Tryz.prog:=⟨109,[.k],[.agg [.int r.id,.bool r.cap]],zB (kh r),ao.of_ok λok=>aj (sh:=.k) (enc:=zB) (a:=(zA r).an) (U8 r ok) (by kernel_rfl) (AV.pureB_ok rfl),ah (by kernel_rfl)⟩
def CZ(s:List Rtr):=okL [.sl 2 (s.map Rtr.v) false,.func 109 []]
def Jv(s:List Rtr)(t0:Int):NF:=⟨[(0,.k,.sl 2 (s.map Rtr.v) false),(1,.k,.func 109 []),(7,.k,.int ((s.map Rtr.v).length:Int)),(8,.k,.int t0)],[]⟩
@[reducible] def CY:Nat→Type
 | 0=>Int
 | _=>Unit
def rk(r:Int):AV:=.int r
def rj(s:List Rtr)(I0:Int→Prop)(m0:Int→Nat):Ax Tryz.prog CY (Int):=
 (.loop 0 (Jv s) I0 m0 ((0):Int) [] λ(t0:Int) b0 =>
(.br 16 (decide (t0<((s.map Rtr.v).length:Int))) (.el 96 Rtr.v s (λR=>Rf (s.map Rtr.v) (ck (decide (0≤t0)) (ck (decide (t0<(s.length:Int)))
(∀x1,s[t0.toNat]?=some x1 →
(R x1))))) λx1 =>
(.callP (U9 x1)
(.br 144 (kh x1) (.ret (t0))
(.bk 0 b0 ((W (t0+1)):Int) []))))
(.ret (-1))))
def uv(s:List Rtr)(I0:Int→Prop)(m0:Int→Nat)(r0:Int):=(rj s I0 m0).vp rk r0
theorem OG(s:List Rtr)(ok:CZ s):∃I m,uv s I m (ci kh s):=by
 refine⟨λt=>aG s (λy=>kh y=false) t,λt=>s.length-t.toNat,?_⟩
 simp only[CZ,okU,Blk.ok,az,List.length_map]at ok
 dsimp only[uv,rj,CY,Ax.vp,Ax.vc];simp only[vcU,rfU,List.length_map]
 exact⟨aG.zero,λt h=>⟨λc=>⟨h.idx,c,λx hx=>⟨λq=>h.found hx q,λq=>h.step (by omega) hx q⟩⟩,λc=>h.lost c⟩⟩
def OH(s:List Rtr):PC Tryz.prog:=⟨153,[(.s 2),.k],[.sl 2 (s.map Rtr.v) false,.func 109 []],rk (ci kh s),ao.of_ok λok=>(OG s ok).elim λI0 h=>h.elim λm0 h=>aj (sh:=.k) (enc:=rk) (a:=(rj s I0 m0).an) h (by kernel_rfl) (AV.pureB_ok rfl),ah (by kernel_rfl)⟩
def OK(s:List Rtr):=okL [.sl 2 (s.map Rtr.v) false,.func 109 []]
def rn(r:Bool):AV:=.bool r
def rl(s:List Rtr):Ax Tryz.prog noS (Bool):=
 (.callP (OH s)
(.ret (decide (0≤(ci kh s)))))
def uw(s:List Rtr)(r0:Bool):=(rl s).vp rn r0
theorem OI(s:List Rtr)(ok:OK s):uw s (s.any kh):=by
 dsimp only[uw,rl,noS,Ax.vp,Ax.vc];simp only[vcU,rfU,List.length_map]
 exact dc _ _
def OJ(s:List Rtr):PC Tryz.prog:=⟨94,[(.s 2),.k],[.sl 2 (s.map Rtr.v) false,.func 109 []],rn (s.any kh),ao.of_ok λok=>aj (sh:=.k) (enc:=rn) (a:=(rl s).an) (OI s ok) (by kernel_rfl) (AV.pureB_ok rfl),ah (by kernel_rfl)⟩
def CC(s:List Lnk):=okL [.sl 5 (s.map Lnk.v) false,.func 101 []]
def IT(s:List Lnk)(t0:Int):NF:=⟨[(0,.k,.sl 5 (s.map Lnk.v) false),(1,.k,.func 101 []),(7,.k,.int ((s.map Lnk.v).length:Int)),(8,.k,.int t0)],[]⟩
@[reducible] def CB:Nat→Type
 | 0=>Int
 | _=>Unit
def qN(r:Int):AV:=.int r
def qM(s:List Lnk)(I0:Int→Prop)(m0:Int→Nat):Ax Tryz.prog CB (Int):=
 (.loop 0 (IT s) I0 m0 ((0):Int) [] λ(t0:Int) b0 =>
(.br 16 (decide (t0<((s.map Lnk.v).length:Int))) (.el 96 Lnk.v s (λR=>Rf (s.map Lnk.v) (ck (decide (0≤t0)) (ck (decide (t0<(s.length:Int)))
(∀x1,s[t0.toNat]?=some x1 →
(R x1))))) λx1 =>
(.callP (Ua x1)
(.br 144 (j9 x1) (.ret (t0))
(.bk 0 b0 ((W (t0+1)):Int) []))))
(.ret (-1))))
def ui(s:List Lnk)(I0:Int→Prop)(m0:Int→Nat)(r0:Int):=(qM s I0 m0).vp qN r0
theorem NL(s:List Lnk)(ok:CC s):∃I m,ui s I m (ci j9 s):=by
 refine⟨λt=>aG s (λy=>j9 y=false) t,λt=>s.length-t.toNat,?_⟩
 simp only[CC,okU,Blk.ok,az,List.length_map]at ok
 dsimp only[ui,qM,CB,Ax.vp,Ax.vc];simp only[vcU,rfU,List.length_map]
 exact⟨aG.zero,λt h=>⟨λc=>⟨h.idx,c,λx hx=>⟨λq=>h.found hx q,λq=>h.step (by omega) hx q⟩⟩,λc=>h.lost c⟩⟩
def NM(s:List Lnk):PC Tryz.prog:=⟨155,[(.s 5),.k],[.sl 5 (s.map Lnk.v) false,.func 101 []],qN (ci j9 s),ao.of_ok λok=>(NL s ok).elim λI0 h=>h.elim λm0 h=>aj (sh:=.k) (enc:=qN) (a:=(qM s I0 m0).an) h (by kernel_rfl) (AV.pureB_ok rfl),ah (by kernel_rfl)⟩
def NP(s:List Lnk):=okL [.sl 5 (s.map Lnk.v) false,.func 101 []]
def qP(r:Bool):AV:=.bool r
def qO(s:List Lnk):Ax Tryz.prog noS (Bool):=
 (.callP (NM s)
(.ret (decide (0≤(ci j9 s)))))
def uj(s:List Lnk)(r0:Bool):=(qO s).vp qP r0
theorem NN(s:List Lnk)(ok:NP s):uj s (s.any j9):=by
 dsimp only[uj,qO,noS,Ax.vp,Ax.vc];simp only[vcU,rfU,List.length_map]
 exact dc _ _
def NO(s:List Lnk):PC Tryz.prog:=⟨100,[(.s 5),.k],[.sl 5 (s.map Lnk.v) false,.func 101 []],qP (s.any j9),ao.of_ok λok=>aj (sh:=.k) (enc:=qP) (a:=(qO s).an) (NN s ok) (by kernel_rfl) (AV.pureB_ok rfl),ah (by kernel_rfl)⟩
def Do(s:List Lnk):=okL [.sl 5 (s.map Lnk.v) false,.func 103 []]
def JZ(s:List Lnk)(t0:Int):NF:=⟨[(0,.k,.sl 5 (s.map Lnk.v) false),(1,.k,.func 103 []),(7,.k,.int ((s.map Lnk.v).length:Int)),(8,.k,.int t0)],[]⟩
@[reducible] def Dn:Nat→Type
 | 0=>Int
 | _=>Unit
def rC(r:Int):AV:=.int r
def rB(s:List Lnk)(I0:Int→Prop)(m0:Int→Nat):Ax Tryz.prog Dn (Int):=
 (.loop 0 (JZ s) I0 m0 ((0):Int) [] λ(t0:Int) b0 =>
(.br 16 (decide (t0<((s.map Lnk.v).length:Int))) (.el 96 Lnk.v s (λR=>Rf (s.map Lnk.v) (ck (decide (0≤t0)) (ck (decide (t0<(s.length:Int)))
(∀x1,s[t0.toNat]?=some x1 →
(R x1))))) λx1 =>
(.callP (Ve x1)
(.br 144 (kr x1) (.ret (t0))
(.bk 0 b0 ((W (t0+1)):Int) []))))
(.ret (-1))))
def uE(s:List Lnk)(I0:Int→Prop)(m0:Int→Nat)(r0:Int):=(rB s I0 m0).vp rC r0
theorem Pj(s:List Lnk)(ok:Do s):∃I m,uE s I m (ci kr s):=by
 refine⟨λt=>aG s (λy=>kr y=false) t,λt=>s.length-t.toNat,?_⟩
 simp only[Do,okU,Blk.ok,az,List.length_map]at ok
 dsimp only[uE,rB,Dn,Ax.vp,Ax.vc];simp only[vcU,rfU,List.length_map]
 exact⟨aG.zero,λt h=>⟨λc=>⟨h.idx,c,λx hx=>⟨λq=>h.found hx q,λq=>h.step (by omega) hx q⟩⟩,λc=>h.lost c⟩⟩
def Pk(s:List Lnk):PC Tryz.prog:=⟨155,[(.s 5),.k],[.sl 5 (s.map Lnk.v) false,.func 103 []],rC (ci kr s),ao.of_ok λok=>(Pj s ok).elim λI0 h=>h.elim λm0 h=>aj (sh:=.k) (enc:=rC) (a:=(rB s I0 m0).an) h (by kernel_rfl) (AV.pureB_ok rfl),ah (by kernel_rfl)⟩
def Pn(s:List Lnk):=okL [.sl 5 (s.map Lnk.v) false,.func 103 []]
def rE(r:Bool):AV:=.bool r
def rD(s:List Lnk):Ax Tryz.prog noS (Bool):=
 (.callP (Pk s)
(.ret (decide (0≤(ci kr s)))))
def uF(s:List Lnk)(r0:Bool):=(rD s).vp rE r0
theorem Pl(s:List Lnk)(ok:Pn s):uF s (s.any kr):=by
 dsimp only[uF,rD,noS,Ax.vp,Ax.vc];simp only[vcU,rfU,List.length_map]
 exact dc _ _
def Pm(s:List Lnk):PC Tryz.prog:=⟨100,[(.s 5),.k],[.sl 5 (s.map Lnk.v) false,.func 103 []],rE (s.any kr),ao.of_ok λok=>aj (sh:=.k) (enc:=rE) (a:=(rD s).an) (Pl s ok) (by kernel_rfl) (AV.pureB_ok rfl),ah (by kernel_rfl)⟩
def Ap(s:List Lnk)(f:Tpl):=okL [.sl 5 (s.map Lnk.v) false,.func 102 [.rptr (.func 97 [.rptr (.agg [.sl 2 (f.rs.map Rtr.v) false,.sl 5 (f.ls.map Lnk.v) false]) 0]) 0]]
def EH(s:List Lnk)(f:Tpl)(t0:Int):NF:=⟨[(0,.k,.sl 5 (s.map Lnk.v) false),(1,.k,.func 102 [.rptr (.func 97 [.rptr (.agg [.sl 2 (f.rs.map Rtr.v) false,.sl 5 (f.ls.map Lnk.v) false]) 0]) 0]),(7,.k,.int ((s.map Lnk.v).length:Int)),(8,.k,.int t0)],[]⟩
@[reducible] def Ao:Nat→Type
 | 0=>Int
 | _=>Unit
def o5(r:Int):AV:=.int r
def o4(s:List Lnk)(f:Tpl)(I0:Int→Prop)(m0:Int→Nat):Ax Tryz.prog Ao (Int):=
 (.loop 0 (EH s f) I0 m0 ((0):Int) [] λ(t0:Int) b0 =>
(.br 16 (decide (t0<((s.map Lnk.v).length:Int))) (.el 96 Lnk.v s (λR=>Rf (s.map Lnk.v) (ck (decide (0≤t0)) (ck (decide (t0<(s.length:Int)))
(∀x1,s[t0.toNat]?=some x1 →
(R x1))))) λx1 =>
(.req 128 (f.rs.length≤1000000) λh2 =>
(.callP (Ql x1 f h2)
(.br 144 (gJ x1 f) (.ret (t0))
(.bk 0 b0 ((W (t0+1)):Int) [])))))
(.ret (-1))))
def rS(s:List Lnk)(f:Tpl)(I0:Int→Prop)(m0:Int→Nat)(r0:Int):=(o4 s f I0 m0).vp o5 r0
theorem K0(s:List Lnk)(t:Tpl)(hl:t.rs.length≤1000000)(ok:Ap s t):∃I m,rS s t I m (ci (λy=>gJ y t) s):=by
 refine⟨λi=>aG s (λy=>gJ y t=false) i,λi=>s.length-i.toNat,?_⟩
 simp only[Ap,okU,Blk.ok,az,List.length_map]at ok
 dsimp only[rS,o4,Ao,Ax.vp,Ax.vc];simp only[vcU,rfU,List.length_map]
 exact⟨aG.zero,λi h=>⟨λc=>⟨h.idx,c,λx hx=>⟨hl,λq=>h.found hx q,λq=>h.step (by omega) hx q⟩⟩,λc=>h.lost c⟩⟩
def K1(s:List Lnk)(f:Tpl)(hl:f.rs.length≤1000000):PC Tryz.prog:=⟨155,[(.s 5),.k],[.sl 5 (s.map Lnk.v) false,.func 102 [.rptr (.func 97 [.rptr (.agg [.sl 2 (f.rs.map Rtr.v) false,.sl 5 (f.ls.map Lnk.v) false]) 0]) 0]],o5 (ci (λy=>gJ y f) s),ao.of_ok λok=>(K0 s f hl ok).elim λI0 h=>h.elim λm0 h=>aj (sh:=.k) (enc:=o5) (a:=(o4 s f I0 m0).an) h (by kernel_rfl) (AV.pureB_ok rfl),ah (by kernel_rfl)⟩
def K3(s:List Lnk)(f:Tpl):=okL [.sl 5 (s.map Lnk.v) false,.func 102 [.rptr (.func 97 [.rptr (.agg [.sl 2 (f.rs.map Rtr.v) false,.sl 5 (f.ls.map Lnk.v) false]) 0]) 0]]
def o7(r:Bool):AV:=.bool r
def o6(s:List Lnk)(f:Tpl):Ax Tryz.prog noS (Bool):=
 (.req 48 (f.rs.length≤1000000) λh1 =>
(.callP (K1 s f h1)
(.ret (decide (0≤(ci (λy=>gJ y f) s))))))
def rT(s:List Lnk)(f:Tpl)(r0:Bool):=(o6 s f).vp o7 r0
theorem K2(s:List Lnk)(t:Tpl)(hl:t.rs.length≤1000000)(ok:K3 s t):rT s t (s.any λy=>gJ y t):=by
 dsimp only[rT,o6,noS,Ax.vp,Ax.vc];simp only[vcU,rfU,List.length_map]
 exact⟨hl,dc _ _⟩
def Aq(s:List Lnk)(f:Tpl)(hl:f.rs.length≤1000000):PC Tryz.prog:=⟨100,[(.s 5),.k],[.sl 5 (s.map Lnk.v) false,.func 102 [.rptr (.func 97 [.rptr (.agg [.sl 2 (f.rs.map Rtr.v) false,.sl 5 (f.ls.map Lnk.v) false]) 0]) 0]],o7 (s.any λy=>gJ y f),ao.of_ok λok=>aj (sh:=.k) (enc:=o7) (a:=(o6 s f).an) (K2 s f hl ok) (by kernel_rfl) (AV.pureB_ok rfl),ah (by kernel_rfl)⟩
theorem dI{α:Type}{l:List α}(hn:l.Nodup){i j:Nat}{x:α}(a:l[i]?=some x)(b:l[j]?=some x):i=j:=by
 have hi:=(List.getElem?_eq_some_iff.mp a).1
 have hj:=(List.getElem?_eq_some_iff.mp b).1
 rw[List.getElem?_eq_getElem hi]at a
 rw[List.getElem?_eq_getElem hj]at b
 exact(List.getElem_inj (h₀:=hi) (h₁:=hj) hn).mp (by rw[Option.some.inj a,Option.some.inj b])
section
variable {α β : Type} [DecidableEq α] {l : List (α × β)} {x y : α} {v z : β} {p : α × β}
theorem aM:x∈au l↔∃v,(x,v)∈l:=by
 unfold au
 rw[List.mem_map]
 exact⟨λ⟨p,h,e⟩=>⟨p.2,by rw[←e];exact h⟩,λ⟨v,h⟩=>⟨_,h,rfl⟩⟩
theorem cg:bn l x=true↔∃v,(x,v)∈l:=by
 unfold bn;rw[decide_eq_true_iff,aM]
theorem fM(h:(au l).Nodup){v w:β}(h1:(x,v)∈l)(h2:(x,w)∈l):v=w:=by
 obtain⟨i,hi⟩:=List.mem_iff_getElem?.mp h1
 obtain⟨j,hj⟩:=List.mem_iff_getElem?.mp h2
 have a:(au l)[i]?=some x:=by rw[au,List.getElem?_map,hi];rfl
 have b:(au l)[j]?=some x:=by rw[au,List.getElem?_map,hj];rfl
 have g:=dI h a b
 subst g;rw[hi]at hj;exact congrArg Prod.snd (Option.some.inj hj)
theorem kV(h:x∈au l):∃v,l[fG l x]?=some (x,v):=by
 have e:l[fG l x]?=some (l[fG l x]'(eR h)):=List.getElem?_eq_getElem (eR h)
 refine⟨(l[fG l x]'(eR h)).2,?_⟩
 rw[e]
 have:=sQ h
 exact congrArg some (Prod.ext this rfl)
theorem cY(h:bn l x=true):(x,ay l x z)∈l:=by
 obtain⟨v,e⟩:=kV (of_decide_eq_true h)
 unfold ay;rw[e]
 exact aP e
theorem eQ(hn:(au l).Nodup)(h:(x,v)∈l):ay l x z=v:=
 fM hn (cY (cg.mpr ⟨v,h⟩)) h
theorem kT(h:bn l x=false):ay l x z=z:=by
 have h:x ∉ au l:=of_decide_eq_false h
 unfold ay;rw[kU h,List.getElem?_eq_none (Nat.le_refl _)]
theorem B4:bn l x=false↔∀v,(x,v) ∉ l:=by
 rw[←Bool.not_eq_true,cg]
 exact⟨λh v hv=>h ⟨v,hv⟩,λh ⟨v,hv⟩=>h v hv⟩
theorem D6:au (bJ l x v)=if x∈au l then au l else au l++[x]:=by
 unfold bJ
 by_cases h:x∈au l
 ·rw[if_pos h,if_pos h]
  unfold au at h ⊢
  rw[List.map_set]
  obtain⟨v',e⟩:=kV h
  refine List.ext_getElem? λi=>?_
  rw[List.getElem?_set]
  split
  ·rename_i g;subst g
   rw[if_pos (by rw[List.length_map];exact ap e),List.getElem?_map,e];rfl
  ·rfl
 ·rw[if_neg h,if_neg h];simp[au]
theorem fe(hn:(au l).Nodup):(au (bJ l x v)).Nodup:=by
 rw[D6]
 split
 ·exact hn
 ·rename_i h
  exact List.nodup_append.mpr ⟨hn,by simp,λa ha b hb=>by rw[List.mem_singleton.mp hb];rintro rfl;exact h ha⟩
theorem cZ(hn:(au l).Nodup):p∈bJ l x v↔p=(x,v)∨(p∈l∧p.1≠x):=by
 unfold bJ
 by_cases h:x∈au l
 ·rw[if_pos h]
  obtain⟨v',e⟩:=kV h
  constructor
  ·intro hp
   obtain⟨i,hi⟩:=List.mem_iff_getElem?.mp hp
   rw[List.getElem?_set]at hi
   split at hi
   ·split at hi
    ·exact .inl (Option.some.inj hi).symm
    ·cases hi
   ·rename_i g
    refine .inr ⟨aP hi,?_⟩
    rintro rfl
    have a:(au l)[i]?=some p.1:=by rw[au,List.getElem?_map,hi];rfl
    have b:(au l)[fG l p.1]?=some p.1:=by rw[au,List.getElem?_map,e];rfl
    exact g (dI hn a b).symm
  ·rintro(rfl|⟨hp,hne⟩)
   ·exact aP (i:=fG l x) (by rw[List.getElem?_set,if_pos rfl,if_pos (ap e)])
   ·obtain⟨i,hi⟩:=List.mem_iff_getElem?.mp hp
    refine aP (i:=i) ?_
    rw[List.getElem?_set,if_neg]
    ·exact hi
    ·rintro rfl
     rw[e]at hi
     exact hne (congrArg Prod.fst (Option.some.inj hi)).symm
 ·rw[if_neg h,List.mem_append,List.mem_singleton]
  constructor
  ·rintro(hp|hp)
   ·exact .inr ⟨hp,λe=>h (aM.mpr ⟨p.2,by rw[←e];exact hp⟩)⟩
   ·exact .inl hp
  ·rintro(hp|⟨hp,_⟩)
   ·exact .inr hp
   ·exact .inl hp
theorem pR(hn:(au l).Nodup):p∈mdl l x↔p∈l∧p.1≠x:=by
 unfold mdl
 by_cases h:x∈au l
 ·obtain⟨v',e⟩:=kV h
  rw[List.mem_eraseIdx_iff_getElem?]
  constructor
  ·rintro⟨i,hne,hi⟩
   refine⟨aP hi,?_⟩
   rintro rfl
   have a:(au l)[i]?=some p.1:=by rw[au,List.getElem?_map,hi];rfl
   have b:(au l)[fG l p.1]?=some p.1:=by rw[au,List.getElem?_map,e];rfl
   exact hne (dI hn a b)
  ·rintro⟨hp,hne⟩
   obtain⟨i,hi⟩:=List.mem_iff_getElem?.mp hp
   refine⟨i,?_,hi⟩
   rintro rfl
   rw[e]at hi
   exact hne (congrArg Prod.fst (Option.some.inj hi)).symm
 ·rw[kU h,List.eraseIdx_of_length_le (Nat.le_refl _)]
  exact⟨λhp=>⟨hp,λe=>h (aM.mpr ⟨p.2,by rw[←e];exact hp⟩)⟩,λhp=>hp.1⟩
theorem D8(hn:(au l).Nodup):(au (mdl l x)).Nodup:=by
 unfold mdl au
 rw[bE]
 exact hn.sublist (List.eraseIdx_sublist _ _)
theorem GQ(hn:(au l).Nodup):bn (bJ l x v) y=(decide (y=x) || bn l y):=by
 rw[Bool.eq_iff_iff,Bool.or_eq_true,decide_eq_true_iff,cg,cg]
 constructor
 ·rintro⟨w,h⟩
  rcases(cZ hn).mp h with h|⟨h,_⟩
  ·cases h;exact .inl rfl
  ·exact .inr ⟨w,h⟩
 ·rintro(rfl|⟨w,h⟩)
  ·exact⟨v,(cZ hn).mpr (.inl rfl)⟩
  ·by_cases e:y=x
   ·subst e;exact⟨v,(cZ hn).mpr (.inl rfl)⟩
   ·exact⟨w,(cZ hn).mpr (.inr ⟨h,e⟩)⟩
theorem GL:(bJ l x v).length=if bn l x=true then l.length else l.length+1:=by
 unfold bJ bn
 by_cases h:x∈au l
 ·rw[if_pos h,decide_eq_true h,if_pos rfl,List.length_set]
 ·rw[if_neg h,decide_eq_false h];simp
end
structure Stp where
  to:Int
  cost:Int
def Stp.v(x:Stp):AV:=.agg [.int x.to,.int x.cost]
abbrev Lks:=List (Int×List Stp)
abbrev Dis:=List (Int×Int)
def bfr(x b:Int×Int):Prop:=x.2<b.2∨x.2=b.2∧x.1<b.1
instance (x b:Int×Int):Decidable (bfr x b):=by unfold bfr;infer_instance
def OU:Dis→Option (Int×Int)
 | []=>none
 | x::l=>match OU l with
  | none=>some x
  | some b=>if bfr x b then some x else some b
def bst(l:Dis):Int:=match OU l with
 | none=>0
 | some b=>b.1
theorem kl:∀{l:Dis},l≠[]→∃b,OU l=some b∧b∈l∧∀x∈l,¬bfr x b
 | [],h=>absurd rfl h
 | [x],_=>⟨x,rfl,by simp,by simp[bfr]⟩
 | x::y::l,_=>by
  obtain⟨b,h1,h2,h3⟩:=kl (l:=y::l) (by simp)
  rw[OU,h1]
  simp only
  split
  ·rename_i h
   refine⟨x,rfl,by simp,λz hz=>?_⟩
   rcases List.mem_cons.mp hz with rfl|hz
   ·simp[bfr]
   ·have:=h3 z hz
    unfold bfr at *;omega
  ·rename_i h
   refine⟨b,rfl,by simp[h2],λz hz=>?_⟩
   rcases List.mem_cons.mp hz with rfl|hz
   ·exact h
   ·exact h3 z hz
theorem UD{l:Dis}{b:Int×Int}(h:b∈l)(hb:∀x∈l,¬bfr x b):bst l=b.1:=by
 obtain⟨c,h1,h2,h3⟩:=kl (l:=l) (by rintro rfl;simp at h)
 have e1:=hb c h2
 have e2:=h3 b h
 unfold bst;rw[h1]
 simp only
 unfold bfr at e1 e2;omega
theorem dS{kk:Option Nat}{z:AV}{ok:Bool}{m k:AO}{f:Nat}{ρ:AO→AV}{hp:Hp}:evA (.mget kk z ok m k) f ρ hp=match fN hp (ρ m),(ρ k).key with
    | some (kk',ks,vs),some q=>{ c:=kk'=kk∧q.fits kk,v:=dB ks vs q z ok }
    | _,_=>.bad:=rfl
def ID:AC:=.seq (.reg [⟨(some 35),.move (.t 8),none⟩,⟨(some 36),.rng (.t 35),none⟩])
 (.block 2 (.loop (.seq (.reg [⟨(some 37),.nxt (.t 36),none⟩,⟨(some 38),.ext 0 (.t 37),none⟩])
 (.seq (.cond (.t 38) (.skip) (.exit 2))
 (.block 3 (.seq (.reg [⟨(some 39),.ent (.t 36),none⟩,⟨(some 40),.ext 0 (.t 39),none⟩,⟨(some 41),.ext 1 (.t 39),none⟩,⟨(some 10),.move (.t 40),none⟩,⟨(some 11),.move (.t 41),none⟩])
 (.seq (.reg [⟨(some 42),.move (.t 9),none⟩,⟨(some 43),.bin .eql (.t 42) (.c (.val (.int .i64 0))),none⟩,⟨(some 44),.move (.t 43),none⟩,⟨(some 45),.move (.t 11),(some (44,false))⟩,⟨(some 46),.move (.t 8),(some (44,false))⟩,⟨(some 47),.move (.t 9),(some (44,false))⟩,⟨(some 48),.mget none ((.val (.int .i64 0))) false (.t 46) (.t 47),(some (44,false))⟩,⟨(some 49),.bin .lss (.t 45) (.t 48),(some (44,false))⟩,⟨(some 50),.pick (.t 44) (.c (.val (.bool true))) (.t 49),none⟩,⟨(some 51),.move (.t 50),none⟩,⟨(some 52),.move (.t 11),(some (51,false))⟩,⟨(some 53),.move (.t 8),(some (51,false))⟩,⟨(some 54),.move (.t 9),(some (51,false))⟩,⟨(some 55),.mget none ((.val (.int .i64 0))) false (.t 53) (.t 54),(some (51,false))⟩,⟨(some 56),.bin .eql (.t 52) (.t 55),(some (51,false))⟩,⟨(some 57),.move (.t 56),(some (51,false))⟩,⟨(some 58),.move (.t 10),(some (57,true))⟩,⟨(some 59),.move (.t 9),(some (57,true))⟩,⟨(some 60),.bin .lss (.t 58) (.t 59),(some (57,true))⟩,⟨(some 61),.pick (.t 57) (.t 60) (.c (.val (.bool false))),(some (51,false))⟩,⟨(some 62),.pick (.t 51) (.c (.val (.bool true))) (.t 61),none⟩])
 (.cond (.t 62) (.reg [⟨(some 63),.move (.t 10),none⟩,⟨(some 9),.move (.t 63),none⟩]) (.skip)))))))))
abbrev ig(L:Lks):AV:=.mp none (L.map λp=>MK.n p.1) (L.map λp=>(λl=>AV.sl 2 (l.map Stp.v) false) p.2)
abbrev qL(l:Dis):Blk:=.map none (l.map λp=>MK.n p.1) (l.map λp=>AV.int p.2)
def C4(L:Lks)(o l:Dis)(b:Int):NF:=
  ⟨[(0,.k,ig L),(5,.k,.mref 0),(8,.k,.mref 1),(9,.k,.int b)],
   [.map none (o.map λp=>MK.n p.1) (o.map λp=>AV.int p.2) (ab (λ_=>rfl) _),.map none (l.map λp=>MK.n p.1) (l.map λp=>AV.int p.2) (ab (λ_=>rfl) _)]⟩
def TR(L:Lks)(o l:Dis)(st:List Nat)(ck:Nat)(seen:List Nat)(b:Int):S3:=
 ⟨cV [(0,ig L),(5,.mref 0),(8,.mref 1),(9,.int b),(36,.ref 2 0)],hpL 0 [some (qL o),some (.mst none (l.map λp=>MK.n p.1) (l.map λp=>AV.int p.2) st ck),some (.itr 1 st ck seen)],3⟩
def OT(l:Dis)(st seen:List Nat)(b:Int):Prop:=(seen=[]∧b=0)∨∃(i:Nat) (x:Int×Int) (s:Nat),l[i]?=some x∧st[i]?=some s∧s∈seen∧b=x.1∧∀(j:Nat) (y:Int×Int) (s:Nat),l[j]?=some y→st[j]?=some s→s∈seen→¬bfr y x
def Gw(l:Dis):Prop:=∀x∈l,x.1≠0∧-9223372036854775808≤x.1∧x.1≤9223372036854775807
theorem dst_h(L:Lks)(o l:Dis)(hl:Gw l)(k:Nat):dy Tryz.prog 0 k ID (C4 L o l 0).st (C4 L o l (bst l)).st:=by
 unfold dy ID
 show AWP _ 0 k _ _ ⟨cV [(0,ig L),(5,.mref 0),(8,.mref 1),(9,.int 0)],hpL 0 [some (qL o),some (qL l)],2⟩
 refine AWP.open 1 rfl λst ck hs1 hs2 hn hv=>?_
 refine AWP.seq' ?_
 refine AWP.reg' λK hK=>?_
 try simp only[aW,aY,aX,eq_self,implies_true,forall_eq_or_imp,forall_eq,Nat.reduceEqDiff,↓reduceIte,Nat.reduceAdd,Nat.reduceLeDiff,Nat.reduceSub,Nat.reduceMul,Nat.reduceLT,Int.reduceBEq,Int.reduceBNe,Int.reduceToNat,Int.reduceLT,Int.reduceLE,Int.reduceAdd,Int.reduceSub,Int.reduceMul,reduceCtorEq]
 refine Cs rfl rfl ?_
 try simp only[aW,aY,aX,eq_self,implies_true,forall_eq_or_imp,forall_eq,Nat.reduceEqDiff,↓reduceIte,Nat.reduceAdd,Nat.reduceLeDiff,Nat.reduceSub,Nat.reduceMul,Nat.reduceLT,Int.reduceBEq,Int.reduceBNe,Int.reduceToNat,Int.reduceLT,Int.reduceLE,Int.reduceAdd,Int.reduceSub,Int.reduceMul,reduceCtorEq]
 refine hK _ _ _ ?_
 clear hK K
 refine AWP.block ?_
 have hvl:bO (l.map λp=>AV.int p.2):=aC (ab (v:=λp:Int×Int=>AV.int p.2) (λ_=>rfl) l)
 have hvo:bO (o.map λp=>AV.int p.2):=aC (ab (v:=λp:Int×Int=>AV.int p.2) (λ_=>rfl) o)
 have rm:∀(π:Nat→Nat) (o:Dis),some (qL o)=some (Blk.ren π (qL o)):=λπ o=>by
  rw[Blk.ren,be _ (aC (ab (v:=λp:Int×Int=>AV.int p.2) (λ_=>rfl) o))]
 have rs:∀(π:Nat→Nat),some (Blk.mst none (l.map λp=>MK.n p.1) (l.map λp=>AV.int p.2) st ck)=some (Blk.ren π (.mst none (l.map λp=>MK.n p.1) (l.map λp=>AV.int p.2) st ck)):=λπ=>by
  rw[Blk.ren,be _ hvl]
 have bm:∀o:Dis,Blk.bel 3 (qL o):=λo=>bg (aC (ab (v:=λp:Int×Int=>AV.int p.2) (λ_=>rfl) o))
 have bs:Blk.bel 3 (.mst none (l.map λp=>MK.n p.1) (l.map λp=>AV.int p.2) st ck):=bg hvl
 rw[List.length_map]at hs2
 refine AWP.loopS (λt:List Nat×Int=>TR L o l st ck t.1 t.2) (λt=>OT l st t.1 t.2∧t.1.Nodup∧∀s∈t.1,s∈st) (λt=>st.length-t.1.length) (i0:=([],0)) ⟨.inl ⟨rfl,rfl⟩,by simp,by simp⟩ ?_ ?_
 ·unfold TR
  refine av.nf [0,1,18] _ _ ?_ ?_ ⟨rfl,rfl⟩ (by decide) (by decide) (by decide)
  ·repeat' (first|exact trivial|exact And.intro rfl trivial|refine And.intro ?_ ?_|rfl|exact Nat.le_of_ble_eq_true rfl|exact rm _ _|exact rs _|exact bm _|exact bs)
  ·repeat' (first|exact trivial|exact And.intro rfl trivial|refine And.intro ?_ ?_|rfl|exact Nat.le_of_ble_eq_true rfl|exact rm _ _|exact rs _|exact bm _|exact bs)
 ·rintro⟨seen,b⟩ ⟨hJ,hnd,hsub⟩
  unfold TR
  refine AWP.seq' ?_
  refine AWP.reg' λK hK=>?_
  try simp only[aW,aY,aX,eq_self,implies_true,forall_eq_or_imp,forall_eq,Nat.reduceEqDiff,↓reduceIte,Nat.reduceAdd,Nat.reduceLeDiff,Nat.reduceSub,Nat.reduceMul,Nat.reduceLT,Int.reduceBEq,Int.reduceBNe,Int.reduceToNat,Int.reduceLT,Int.reduceLE,Int.reduceAdd,Int.reduceSub,Int.reduceMul,reduceCtorEq]
  have hk:∀q∈(l.map λp=>MK.n p.1),kOk q:=λq hq=>by
   obtain⟨x,hx,rfl⟩:=List.mem_map.mp hq
   have:=hl x hx
   show inK .i64 x.1
   rw[H8];exact this.2
  refine Ct rfl rfl rfl hk (λhs=>?_) (λi q v s0 e1 e2 e3 e4=>?_)
  ·try simp only[aW,aY,aX,eq_self,implies_true,forall_eq_or_imp,forall_eq,Nat.reduceEqDiff,↓reduceIte,Nat.reduceAdd,Nat.reduceLeDiff,Nat.reduceSub,Nat.reduceMul,Nat.reduceLT,Int.reduceBEq,Int.reduceBNe,Int.reduceToNat,Int.reduceLT,Int.reduceLE,Int.reduceAdd,Int.reduceSub,Int.reduceMul,reduceCtorEq]
   refine hK _ _ _ ?_
   clear hK K
   have hb:b=bst l:=by
    rcases hJ with⟨h1,h2⟩|⟨i,x,s,g1,g2,g3,g4,g5⟩
    ·have h1:seen=[]:=h1
     subst h1
     have:st=[]:=List.eq_nil_iff_forall_not_mem.mpr λs hs'=>by simpa using hs s hs'
     have:l=[]:=List.eq_nil_of_length_eq_zero (by rw[←hs2,this];rfl)
     subst this;exact h2
    ·have g4:b=x.1:=g4
     rw[g4]
     refine(UD (aP g1) λy hy=>?_).symm
     obtain⟨j,hj⟩:=List.mem_iff_getElem?.mp hy
     have hlt:=ap hj
     exact g5 j y (st[j]'(by omega)) hj (List.getElem?_eq_getElem (by omega)) (hs _ (List.getElem_mem _))
   refine AWP.seq' (AWP.cond (b:=false) rfl (λh=>by cases h) (λ_=>AWP.exit ?_))
   show av 0 k _ ⟨cV [(0,ig L),(5,.mref 0),(8,.mref 1),(9,.int (bst l))],hpL 0 [some (qL o),some (qL l)],2⟩
   rw[←hb]
   refine av.trans (av.close 1 rfl) ?_
   have bm:∀o:Dis,Blk.bel 2 (qL o):=λo=>bg (aC (ab (v:=λp:Int×Int=>AV.int p.2) (λ_=>rfl) o))
   refine av.nf [0,1] _ _ ?_ ?_ ⟨rfl,rfl⟩ (by decide) (by decide) (by decide)
   ·repeat' (first|exact trivial|exact And.intro rfl trivial|refine And.intro ?_ ?_|rfl|exact Nat.le_of_ble_eq_true rfl|exact rm _ _|exact bm _)
   ·repeat' (first|exact trivial|exact And.intro rfl trivial|refine And.intro ?_ ?_|rfl|exact Nat.le_of_ble_eq_true rfl|exact rm _ _|exact bm _)
  ·try simp only[aW,aY,aX,eq_self,implies_true,forall_eq_or_imp,forall_eq,Nat.reduceEqDiff,↓reduceIte,Nat.reduceAdd,Nat.reduceLeDiff,Nat.reduceSub,Nat.reduceMul,Nat.reduceLT,Int.reduceBEq,Int.reduceBNe,Int.reduceToNat,Int.reduceLT,Int.reduceLE,Int.reduceAdd,Int.reduceSub,Int.reduceMul,reduceCtorEq]
   refine hK _ _ _ ?_
   clear hK K
   refine AWP.seq' (AWP.cond (b:=true) rfl (λ_=>?_) (λh=>by cases h))
   refine AWP.skip ?_
   refine AWP.block (AWP.seq' ?_)
   rw[List.getElem?_map,Option.map_eq_some_iff]at e1 e2
   obtain⟨x,e1,rfl⟩:=e1
   obtain⟨x',e2,rfl⟩:=e2
   rw[e1]at e2;cases e2
   have e5:(l.map λp=>MK.n p.1)[i]?=some (MK.n x.1):=by rw[List.getElem?_map,e1];rfl
   have e6:(l.map λp=>AV.int p.2)[i]?=some (AV.int x.2):=by rw[List.getElem?_map,e1];rfl
   refine AWP.reg' λK hK=>?_
   try simp only[aW,aY,aX,eq_self,implies_true,forall_eq_or_imp,forall_eq,Nat.reduceEqDiff,↓reduceIte,Nat.reduceAdd,Nat.reduceLeDiff,Nat.reduceSub,Nat.reduceMul,Nat.reduceLT,Int.reduceBEq,Int.reduceBNe,Int.reduceToNat,Int.reduceLT,Int.reduceLE,Int.reduceAdd,Int.reduceSub,Int.reduceMul,reduceCtorEq]
   refine Cu rfl rfl rfl e3 e5 e6 (hk _ (List.mem_of_getElem? e5)) ?_
   try simp only[aW,aY,aX,eq_self,implies_true,forall_eq_or_imp,forall_eq,Nat.reduceEqDiff,↓reduceIte,Nat.reduceAdd,Nat.reduceLeDiff,Nat.reduceSub,Nat.reduceMul,Nat.reduceLT,Int.reduceBEq,Int.reduceBNe,Int.reduceToNat,Int.reduceLT,Int.reduceLE,Int.reduceAdd,Int.reduceSub,Int.reduceMul,reduceCtorEq,kAV]
   refine hK _ _ _ ?_
   clear hK K
   refine AWP.seq' ?_
   have hN:(seen++[s0]).Nodup:=List.nodup_append.mpr ⟨hnd,by simp,λa ha b hb=>by rw[List.mem_singleton.mp hb];rintro rfl;exact e4 ha⟩
   have hS:∀s∈seen++[s0],s∈st:=λs hs=>by
    rcases List.mem_append.mp hs with hs|hs
    ·exact hsub s hs
    ·rw[List.mem_singleton.mp hs];exact List.mem_of_getElem? e3
   have hL:st.length-(seen++[s0]).length<st.length-seen.length:=by
    have:=List.Nodup.length_le_of_subset hN hS
    rw[List.length_append,List.length_singleton]at this ⊢;omega
   have hu:∀{j y},l[j]?=some y→st[j]?=some s0→y=x:=λ{j y} h1 h2=>by
    have:=dI hs1 h2 e3
    subst this;rw[h1]at e1;exact Option.some.inj e1
   have hnew:(∀(j:Nat) (y:Int×Int) (s:Nat),l[j]?=some y→st[j]?=some s→s∈seen→¬bfr y x)→OT l st (seen++[s0]) x.1:=λh =>
    .inr ⟨i,x,s0,e1,e3,by simp,rfl,λj y s h1 h2 h3=>by
     rcases List.mem_append.mp h3 with h3|h3
     ·exact h j y s h1 h2 h3
     ·rw[List.mem_singleton.mp h3]at h2;rw[hu h1 h2];simp[bfr]⟩
   rcases hJ with⟨h1,h2⟩|⟨i',y,s,g1,g2,g3,g4,g5⟩
   ·have h1:seen=[]:=h1
    have h2:b=0:=h2
    subst h1;subst h2
    have hJ':=hnew (λj y s _ _ h3=>by simp at h3)
    refine AWP.reg' λK hK=>?_
    try simp only[aW,aY,aX,eq_self,implies_true,forall_eq_or_imp,forall_eq,Nat.reduceEqDiff,↓reduceIte,Nat.reduceAdd,Nat.reduceLeDiff,Nat.reduceSub,Nat.reduceMul,Nat.reduceLT,Int.reduceBEq,Int.reduceBNe,Int.reduceToNat,Int.reduceLT,Int.reduceLE,Int.reduceAdd,Int.reduceSub,Int.reduceMul,reduceCtorEq]
    refine hK _ _ _ ?_
    clear hK K
    refine AWP.cond (b:=true) rfl (λ_=>?_) (λh=>by cases h)
    refine AWP.reg' λK hK=>?_
    try simp only[aW,aY,aX,eq_self,implies_true,forall_eq_or_imp,forall_eq,Nat.reduceEqDiff,↓reduceIte,Nat.reduceAdd,Nat.reduceLeDiff,Nat.reduceSub,Nat.reduceMul,Nat.reduceLT,Int.reduceBEq,Int.reduceBNe,Int.reduceToNat,Int.reduceLT,Int.reduceLE,Int.reduceAdd,Int.reduceSub,Int.reduceMul,reduceCtorEq]
    refine hK _ _ _ ?_
    clear hK K
    refine⟨(_,_),⟨hJ',hN,hS⟩,hL,?_⟩
    refine av.nf [0,1,2] _ _ ?_ ?_ ⟨rfl,rfl⟩ (by decide) (by decide) (by decide)
    ·repeat' (first|exact trivial|exact And.intro rfl trivial|refine And.intro ?_ ?_|rfl|exact Nat.le_of_ble_eq_true rfl|exact rm _ _|exact rs _|exact bm _|exact bs)
    ·repeat' (first|exact trivial|exact And.intro rfl trivial|refine And.intro ?_ ?_|rfl|exact Nat.le_of_ble_eq_true rfl|exact rm _ _|exact rs _|exact bm _|exact bs)
   ·have g4:b=y.1:=g4
    subst g4
    have hy0:¬y.1=0:=(hl y (aP g1)).1
    have hmg:dB (l.map λp=>MK.n p.1) (l.map λp=>AV.int p.2) (MK.n y.1) (AV.int 0) false=AV.int y.2:=by
     have hh:bn l y.1=true:=cg.mpr ⟨y.2,aP g1⟩
     have hnk:(au l).Nodup:=by
      have:=lU (l:=l) (kf:=MK.n)
      rw[this]at hn
      exact List.Pairwise.of_map MK.n (λa b h e=>h (congrArg _ e)) hn
     rw[nz (vf:=AV.int) (z:=0) (λ_ _ h=>MK.n.inj h) hh,eQ hnk (aP g1)];rfl
    have hy1:(y.1==0)=false:=by simpa using hy0
    have hbt:bfr x y→OT l st (seen++[s0]) x.1:=λh=>hnew λj z s' h1 h2 h3=>by
     have:=g5 j z s' h1 h2 h3
     unfold bfr at *;omega
    have hbf:¬bfr x y→OT l st (seen++[s0]) y.1:=λh=>.inr ⟨i',y,s,g1,g2,List.mem_append_left _ g3,rfl,λj z s' h1 h2 h3=>by
     rcases List.mem_append.mp h3 with h3|h3
     ·exact g5 j z s' h1 h2 h3
     ·rw[List.mem_singleton.mp h3]at h2;rw[hu h1 h2];exact h⟩
    by_cases c1:x.2<y.2
    ·refine AWP.reg' λK hK=>?_
     try simp only[aW,aY,aX,eq_self,implies_true,forall_eq_or_imp,forall_eq,Nat.reduceEqDiff,↓reduceIte,Nat.reduceAdd,Nat.reduceLeDiff,Nat.reduceSub,Nat.reduceMul,Nat.reduceLT,Int.reduceBEq,Int.reduceBNe,Int.reduceToNat,Int.reduceLT,Int.reduceLE,Int.reduceAdd,Int.reduceSub,Int.reduceMul,reduceCtorEq,hy0,hy1,hmg,dS,fN,AV.key,MK.fits,and_self,true_and,c1]
     refine hK _ _ _ ?_
     clear hK K
     refine AWP.cond (b:=true) rfl (λ_=>?_) (λh=>by cases h)
     refine AWP.reg' λK hK=>?_
     try simp only[aW,aY,aX,eq_self,implies_true,forall_eq_or_imp,forall_eq,Nat.reduceEqDiff,↓reduceIte,Nat.reduceAdd,Nat.reduceLeDiff,Nat.reduceSub,Nat.reduceMul,Nat.reduceLT,Int.reduceBEq,Int.reduceBNe,Int.reduceToNat,Int.reduceLT,Int.reduceLE,Int.reduceAdd,Int.reduceSub,Int.reduceMul,reduceCtorEq]
     refine hK _ _ _ ?_
     clear hK K
     refine⟨(_,_),⟨hbt (.inl c1),hN,hS⟩,hL,?_⟩
     refine av.nf [0,1,2] _ _ ?_ ?_ ⟨rfl,rfl⟩ (by decide) (by decide) (by decide)
     ·repeat' (first|exact trivial|exact And.intro rfl trivial|refine And.intro ?_ ?_|rfl|exact Nat.le_of_ble_eq_true rfl|exact rm _ _|exact rs _|exact bm _|exact bs)
     ·repeat' (first|exact trivial|exact And.intro rfl trivial|refine And.intro ?_ ?_|rfl|exact Nat.le_of_ble_eq_true rfl|exact rm _ _|exact rs _|exact bm _|exact bs)
    ·by_cases c2:x.2=y.2
     ·have c2':(x.2==y.2)=true:=by simpa using c2
      by_cases c3:x.1<y.1
      ·refine AWP.reg' λK hK=>?_
       try simp only[aW,aY,aX,eq_self,implies_true,forall_eq_or_imp,forall_eq,Nat.reduceEqDiff,↓reduceIte,Nat.reduceAdd,Nat.reduceLeDiff,Nat.reduceSub,Nat.reduceMul,Nat.reduceLT,Int.reduceBEq,Int.reduceBNe,Int.reduceToNat,Int.reduceLT,Int.reduceLE,Int.reduceAdd,Int.reduceSub,Int.reduceMul,reduceCtorEq,hy0,hy1,hmg,dS,fN,AV.key,MK.fits,and_self,true_and,c1,c2',c3]
       refine hK _ _ _ ?_
       clear hK K
       refine AWP.cond (b:=true) rfl (λ_=>?_) (λh=>by cases h)
       refine AWP.reg' λK hK=>?_
       try simp only[aW,aY,aX,eq_self,implies_true,forall_eq_or_imp,forall_eq,Nat.reduceEqDiff,↓reduceIte,Nat.reduceAdd,Nat.reduceLeDiff,Nat.reduceSub,Nat.reduceMul,Nat.reduceLT,Int.reduceBEq,Int.reduceBNe,Int.reduceToNat,Int.reduceLT,Int.reduceLE,Int.reduceAdd,Int.reduceSub,Int.reduceMul,reduceCtorEq]
       refine hK _ _ _ ?_
       clear hK K
       refine⟨(_,_),⟨hbt (.inr ⟨c2,c3⟩),hN,hS⟩,hL,?_⟩
       refine av.nf [0,1,2] _ _ ?_ ?_ ⟨rfl,rfl⟩ (by decide) (by decide) (by decide)
       ·repeat' (first|exact trivial|exact And.intro rfl trivial|refine And.intro ?_ ?_|rfl|exact Nat.le_of_ble_eq_true rfl|exact rm _ _|exact rs _|exact bm _|exact bs)
       ·repeat' (first|exact trivial|exact And.intro rfl trivial|refine And.intro ?_ ?_|rfl|exact Nat.le_of_ble_eq_true rfl|exact rm _ _|exact rs _|exact bm _|exact bs)
      ·refine AWP.reg' λK hK=>?_
       try simp only[aW,aY,aX,eq_self,implies_true,forall_eq_or_imp,forall_eq,Nat.reduceEqDiff,↓reduceIte,Nat.reduceAdd,Nat.reduceLeDiff,Nat.reduceSub,Nat.reduceMul,Nat.reduceLT,Int.reduceBEq,Int.reduceBNe,Int.reduceToNat,Int.reduceLT,Int.reduceLE,Int.reduceAdd,Int.reduceSub,Int.reduceMul,reduceCtorEq,hy0,hy1,hmg,dS,fN,AV.key,MK.fits,and_self,true_and,c1,c2',c3]
       refine hK _ _ _ ?_
       clear hK K
       refine AWP.cond (b:=false) rfl (λh=>by cases h) (λ_=>?_)
       refine AWP.skip ?_
       refine⟨(_,_),⟨hbf (by unfold bfr;omega),hN,hS⟩,hL,?_⟩
       refine av.nf [0,1,2] _ _ ?_ ?_ ⟨rfl,rfl⟩ (by decide) (by decide) (by decide)
       ·repeat' (first|exact trivial|exact And.intro rfl trivial|refine And.intro ?_ ?_|rfl|exact Nat.le_of_ble_eq_true rfl|exact rm _ _|exact rs _|exact bm _|exact bs)
       ·repeat' (first|exact trivial|exact And.intro rfl trivial|refine And.intro ?_ ?_|rfl|exact Nat.le_of_ble_eq_true rfl|exact rm _ _|exact rs _|exact bm _|exact bs)
     ·have c2':(x.2==y.2)=false:=by simpa using c2
      refine AWP.reg' λK hK=>?_
      try simp only[aW,aY,aX,eq_self,implies_true,forall_eq_or_imp,forall_eq,Nat.reduceEqDiff,↓reduceIte,Nat.reduceAdd,Nat.reduceLeDiff,Nat.reduceSub,Nat.reduceMul,Nat.reduceLT,Int.reduceBEq,Int.reduceBNe,Int.reduceToNat,Int.reduceLT,Int.reduceLE,Int.reduceAdd,Int.reduceSub,Int.reduceMul,reduceCtorEq,hy0,hy1,hmg,dS,fN,AV.key,MK.fits,and_self,true_and,c1,c2']
      refine hK _ _ _ ?_
      clear hK K
      refine AWP.cond (b:=false) rfl (λh=>by cases h) (λ_=>?_)
      refine AWP.skip ?_
      refine⟨(_,_),⟨hbf (by unfold bfr;omega),hN,hS⟩,hL,?_⟩
      refine av.nf [0,1,2] _ _ ?_ ?_ ⟨rfl,rfl⟩ (by decide) (by decide) (by decide)
      ·repeat' (first|exact trivial|exact And.intro rfl trivial|refine And.intro ?_ ?_|rfl|exact Nat.le_of_ble_eq_true rfl|exact rm _ _|exact rs _|exact bm _|exact bs)
      ·repeat' (first|exact trivial|exact And.intro rfl trivial|refine And.intro ?_ ?_|rfl|exact Nat.le_of_ble_eq_true rfl|exact rm _ _|exact rs _|exact bm _|exact bs)
theorem dE.refN{foot:List Nat}{hp:Hp}{b off:Nat}{x y:AV}(hb:b∈foot)(h:hp b=some (.box x))(hv:dE foot hp x y)(hs:y.solid=true):dE foot hp (.ref b off) (.rptr y off):=by
 intro P c A μ fr tm' hp' n a w cv H hh hv'
 obtain⟨hd,e1,e2,rfl⟩:=hv'
 obtain⟨hd',v,ty,f1,f2,f3,f4,f5,f6⟩:=H.box ((hh b hb).trans h)
 rw[e1]at f1;cases f1
 obtain⟨hd',g1,_,g3⟩:=H.blk b _ ((hh b hb).trans h)
 rw[e1]at g1;cases g1
 have q:=hv P c A μ fr tm' hp' n a w v H hh f4
 refine⟨hd.blk,0,v,by simp,.inr ⟨b,_,hd,(hh b hb).trans h,e1,e2,rfl⟩,q,(RV.cells hs q).2,λp u hu=>f6 p u hu⟩
def EG:AC:=.reg [⟨(some 52),.faddr 1 (.t 1),none⟩,⟨(some 53),.load false 1 (.t 52),none⟩,⟨(some 54),.mkf 102 [(.t 4)],none⟩,⟨(some 55),.call (.c (.func 100 [])) [(.t 53),(.t 54)],none⟩,⟨(some 51),.move (.t 55),none⟩]
def Pr(t:Tpl):NF:=⟨[(1,.k,.ref 0 0),(4,.k,.ref 1 0)],[.box (Tpl.v t),.box (.func 97 [.ref 0 0])]⟩
def Pq(t:Tpl)(b:Bool):NF:=⟨[(1,.k,.ref 0 0),(51,.k,.bool b)],[.box (Tpl.v t)]⟩
theorem unk_h(t:Tpl)(hl:t.rs.length≤1000000)(k:Nat):dy Tryz.prog 0 k EG (Pr t).st (Pq t (t.ls.any λy=>gJ y t)).st:=by
 unfold dy EG
 show AWP _ 0 k _ _ ⟨cV [(1,.ref 0 0),(4,.ref 1 0)],hpL 0 [some (.box (Tpl.v t)),some (.box (.func 97 [.ref 0 0]))],2⟩
 refine AWP.reg' λK hK=>?_
 try simp only[aW,aY,aX,eq_self,implies_true,forall_eq_or_imp,forall_eq,Nat.reduceEqDiff,↓reduceIte,Nat.reduceAdd,Nat.reduceLeDiff,Nat.reduceSub,Nat.reduceMul,Nat.reduceLT,Int.reduceBEq,Int.reduceBNe,Int.reduceToNat,Int.reduceLT,Int.reduceLE,Int.reduceAdd,Int.reduceSub,Int.reduceMul,reduceCtorEq,Tpl.v]
 refine Iq [0,1] (Aq t.ls t hl).ok (Aq t.ls t hl).fn rfl rfl ⟨dE.pure trivial,dE.func ⟨?_,trivial⟩,trivial⟩ trivial ?_
 ·refine dE.refN (by simp) rfl (dE.func ⟨dE.ref (by simp) rfl ⟨trivial,trivial,trivial⟩,trivial⟩) rfl
 try simp only[aW,aY,aX,eq_self,implies_true,forall_eq_or_imp,forall_eq,Nat.reduceEqDiff,↓reduceIte,Nat.reduceAdd,Nat.reduceLeDiff,Nat.reduceSub,Nat.reduceMul,Nat.reduceLT,Int.reduceBEq,Int.reduceBNe,Int.reduceToNat,Int.reduceLT,Int.reduceLE,Int.reduceAdd,Int.reduceSub,Int.reduceMul,reduceCtorEq]
 refine hK _ _ _ ?_
 clear hK K
 refine(show av 0 k _ ⟨cV [(1,.ref 0 0),(51,.bool (t.ls.any λy=>gJ y t))],hpL 0 [some (.box (Tpl.v t))],1⟩from ?_)
 refine av.nf [0] _ _ ?_ ?_ ⟨rfl,rfl⟩ (by decide) (by decide) (by decide)
 ·repeat' (first|exact trivial|exact And.intro rfl trivial|refine And.intro ?_ ?_|rfl|exact Nat.le_of_ble_eq_true rfl)
 ·repeat' (first|exact trivial|exact And.intro rfl trivial|refine And.intro ?_ ?_|rfl|exact Nat.le_of_ble_eq_true rfl)
def dU{α:Type}(l:List α)(R:α→α→Prop)(t:Int):Prop:=∃k:Nat,t=k∧k≤l.length∧∀(j:Nat) x y,j+1<k→l[j]?=some x→l[j+1]?=some y→R x y
section
variable {α : Type} {l : List α} {R : α → α → Prop} {t : Int} {x y : α}
theorem dU.zero:dU l R 0:=⟨0,rfl,by omega,λj x y h=>by omega⟩
theorem dU.idx(h:dU l R t):0≤t:=by obtain⟨k,rfl,_,_⟩:=h;omega
theorem dU.step0(h:dU l R t)(hl:l.length≤1000000)(c:t<l.length)(h0:¬0<t):dU l R (W (t+1))∧l.length-(W (t+1)).toNat<l.length-t.toNat:=by
 obtain⟨k,rfl,hk,ha⟩:=h
 obtain rfl:k=0:=by omega
 rw[aU (n:=l.length) (by omega) (by omega)]
 exact⟨⟨1,rfl,by omega,λj x y hj=>by omega⟩,by omega⟩
theorem dU.step(h:dU l R t)(hl:l.length≤1000000)(h0:0<t)(hx:l[(W (t-1)).toNat]?=some x)(hy:l[t.toNat]?=some y)(p:R x y):dU l R (W (t+1))∧l.length-(W (t+1)).toNat<l.length-t.toNat:=by
 obtain⟨k,rfl,hk,ha⟩:=h
 rw[Int.toNat_natCast]at hy
 have hlt:=ap hy
 rw[ix (by omega) (by omega),Int.toNat_natCast]at hx
 rw[aU (n:=l.length) hlt (by omega)]
 refine⟨⟨k+1,rfl,by omega,λj x' y' hj hx' hy'=>?_⟩,by omega⟩
 by_cases e:j+1=k
 ·subst e
  rw[show j+1-1=j by omega,hx']at hx;cases hx
  rw[hy']at hy;cases hy;exact p
 ·exact ha j x' y' (by omega) hx' hy'
theorem dU.bad(h:dU l R t)(hl:l.length≤1000000)(h0:0<t)(hx:l[(W (t-1)).toNat]?=some x)(hy:l[t.toNat]?=some y)(p:¬R x y):¬l.Pairwise R:=by
 obtain⟨k,rfl,hk,ha⟩:=h
 rw[Int.toNat_natCast]at hy
 have hlt:=ap hy
 rw[ix (by omega) (by omega),Int.toNat_natCast]at hx
 intro hp
 rw[List.pairwise_iff_getElem]at hp
 have:=hp (k-1) k (by omega) hlt (by omega)
 rw[List.getElem?_eq_getElem (by omega)]at hx hy
 rw[Option.some.inj hx,Option.some.inj hy]at this
 exact p this
theorem dU.rng(h:dU l R t)(hl:l.length≤1000000)(h0:0<t)(c:t<l.length):0≤W (t-1)∧W (t-1)<l.length:=by
 obtain⟨k,rfl,hk,ha⟩:=h
 rw[ix (by omega) (by omega)];omega
theorem dU.next(h:dU l R t)(hl:l.length≤1000000)(c:t<l.length){b:Bool}(hb:b=true↔0<t∧∃x y,l[(W (t-1)).toNat]?=some x∧l[t.toNat]?=some y∧¬R x y) :
  (b=true→¬l.Pairwise R)∧(b=false→dU l R (W (t+1))∧l.length-(W (t+1)).toNat<l.length-t.toNat):=by
 refine⟨λe=>?_,λe=>?_⟩
 ·obtain⟨h0,x,y,hx,hy,p⟩:=hb.mp e
  exact h.bad hl h0 hx hy p
 ·by_cases h0:0<t
  ·obtain⟨g1,g2⟩:=h.rng hl h0 c
   have hx:=List.getElem?_eq_getElem (show(W (t-1)).toNat<l.length by omega)
   have hy:=List.getElem?_eq_getElem (show t.toNat<l.length by omega)
   refine h.step hl h0 hx hy (Classical.byContradiction λp=>?_)
   have:=hb.mpr ⟨h0,_,_,hx,hy,p⟩
   rw[e]at this;cases this
  ·exact h.step0 hl c h0
theorem dU.done(h:dU l R t)(c:¬t<l.length)(tr:∀x y z,R x y→R y z→R x z):l.Pairwise R:=by
 obtain⟨k,rfl,hk,ha⟩:=h
 rw[List.pairwise_iff_getElem]
 have key:∀d i,(hi:i+d+1<l.length)→R (l[i]'(by omega)) l[i+d+1]:=by
  intro d
  induction d with
  | zero=>intro i hi;exact ha i _ _ (by omega) (List.getElem?_eq_getElem (by omega)) (List.getElem?_eq_getElem hi)
  | succ d ih =>
   intro i hi
   exact tr _ _ _ (ih i (by omega)) (ha (i+d+1) _ _ (by omega) (List.getElem?_eq_getElem (by omega)) (List.getElem?_eq_getElem hi))
 intro i j hi hj hij
 have:=key (j-i-1) i (by omega)
 simp only[show i+(j-i-1)+1=j by omega]at this
 exact this
end
theorem uB{l:List Rtr}(h:l.Pairwise (λx y=>x.id<y.id)){i j:Nat}(hij:i<j){x y:Rtr}(hx:l[i]?=some x)(hy:l[j]?=some y):x.id<y.id:=by
 have hi:=ap hx
 have hj:=ap hy
 rw[List.getElem?_eq_getElem hi]at hx
 rw[List.getElem?_eq_getElem hj]at hy
 have:=List.pairwise_iff_getElem.mp h i j hi hj hij
 rw[Option.some.inj hx,Option.some.inj hy]at this
 exact this
theorem sf(l:List Rtr):l.any jk=true↔¬∀x∈l,1≤x.id∧x.id≤99:=by
 rw[List.any_eq_true]
 constructor
 ·rintro⟨x,hx,e⟩ h
  have:=h x hx
  simp[jk,inT,this]at e
 ·intro h
  refine Classical.byContradiction λq=>h λx hx=>?_
  have:¬jk x=true:=λe=>q ⟨x,hx,e⟩
  simp[jk,inT]at this
  omega
theorem uh(l:List Lnk):l.any j9=true↔¬∀x∈l,gO x:=by
 rw[List.any_eq_true]
 have key:∀x:Lnk,j9 x=true↔¬gO x:=λx=>by
  unfold j9 gO inT kL
  simp
  omega
 constructor
 ·rintro⟨x,hx,e⟩ h
  exact(key x).mp e (h x hx)
 ·intro h
  exact Classical.byContradiction λq=>h λx hx=>Classical.byContradiction λr=>q ⟨x,hx,(key x).mpr r⟩
theorem uD(l:List Lnk):l.any kr=true↔¬∀x∈l,x.a<x.b:=by
 rw[List.any_eq_true]
 constructor
 ·rintro⟨x,hx,e⟩ h
  have:=h x hx
  simp[kr]at e;omega
 ·intro h
  exact Classical.byContradiction λq=>h λx hx=>Classical.byContradiction λr=>q ⟨x,hx,by simp[kr];omega⟩
theorem tB{l:List Rtr}(h:l.Pairwise λx y=>x.id<y.id)(r:Int):(xH l r=l.any (eqR r))∧∀x∈l,eqR r x=true→l[FO l r]?=some x:=by
 refine Dc (λa b x y hab hx hy e=>?_) (λx e=>?_) λa b x y hab hx hy e=>?_
 ·have:=uB h hab hx hy
  simp[ltR]at e ⊢;omega
 ·simp[eqR]at e;simp[ltR];omega
 ·have:=uB h hab hx hy
  simp[eqR]at e;simp[ltR];omega
theorem rR{t:Tpl}(h:t.rs.Pairwise λx y=>x.id<y.id):(t.ls.any λy=>gJ y t)=true↔¬∀l∈t.ls,aK t l.a=true∧aK t l.b=true:=by
 have key:∀l:Lnk,gJ l t=true↔¬(aK t l.a=true∧aK t l.b=true):=λl=>by
  unfold gJ vj
  rw[(tB h l.a).1,(tB h l.b).1]
  show(!aK t l.a || !aK t l.b)=true↔_
  cases aK t l.a<;>cases aK t l.b<;>simp
 rw[List.any_eq_true]
 constructor
 ·rintro⟨x,hx,e⟩ q
  exact(key x).mp e (q x hx)
 ·intro q
  exact Classical.byContradiction λq2=>q λx hx=>Classical.byContradiction λr=>q2 ⟨x,hx,(key x).mpr r⟩
def Jk(t:Tpl):=okL [.agg [.sl 2 (t.rs.map Rtr.v) false,.sl 5 (t.ls.map Lnk.v) false]]
def Ow(t:Tpl)(t0:Bool):NF:=⟨[(1,.k,.ref 0 0),(6,.k,.bool t0)],[.box (.agg [.sl 2 (t.rs.map Rtr.v) false,.sl 5 (t.ls.map Lnk.v) false])]⟩
def Ov(t:Tpl)(t1:Int):NF:=⟨[(1,.k,.ref 0 0),(23,.k,.int ((t.rs.map Rtr.v).length:Int)),(24,.k,.int t1)],[.box (.agg [.sl 2 (t.rs.map Rtr.v) false,.sl 5 (t.ls.map Lnk.v) false])]⟩
def Ou(t:Tpl)(t1:Int)(t2:Bool):NF:=⟨[(1,.k,.ref 0 0),(23,.k,.int ((t.rs.map Rtr.v).length:Int)),(24,.k,.int t1),(44,.k,.bool t2)],[.box (.agg [.sl 2 (t.rs.map Rtr.v) false,.sl 5 (t.ls.map Lnk.v) false])]⟩
def Ot(t:Tpl)(t3:Int):NF:=⟨[(1,.k,.ref 0 0),(62,.k,.int ((t.ls.map Lnk.v).length:Int)),(63,.k,.int t3)],[.box (.agg [.sl 2 (t.rs.map Rtr.v) false,.sl 5 (t.ls.map Lnk.v) false])]⟩
def Oq(t:Tpl)(t3:Int)(t4:Bool):NF:=⟨[(1,.k,.ref 0 0),(62,.k,.int ((t.ls.map Lnk.v).length:Int)),(63,.k,.int t3),(82,.k,.bool t4)],[.box (.agg [.sl 2 (t.rs.map Rtr.v) false,.sl 5 (t.ls.map Lnk.v) false])]⟩
@[reducible] def Jj:Nat→Type
 | 0=>Bool
 | 1=>Int
 | 2=>Bool
 | 3=>Int
 | 4=>Bool
 | _=>Unit
def zr(r:Int):AV:=.int r
def zq(t:Tpl)(I0:Bool→Prop)(I1:Bool→Int→Prop)(m1:Bool→Int→Nat)(I2:Bool→Int→Bool→Prop)(I3:Bool→Int→Int→Prop)(m3:Bool→Int→Int→Nat)(I4:Bool→Int→Int→Bool→Prop):Ax Tryz.prog Jj (Int):=
 (.pass (.pass (.join 0 (Ow t) (λ(t0:Bool)=>I0 t0) (λb0=>(.br 112 (decide (24<((t.rs.map Rtr.v).length:Int))) (.bk 0 b0 ((true):Bool) [0])
(.bk 0 b0 ((decide (60<((t.ls.map Lnk.v).length:Int))):Bool) [0]))) λ(t0:Bool) =>
(.br 1 t0 (.ret (3))
(.callP (Li t.rs)
(.br 65 ((t.rs).any jk) (.ret (2))
(.loop 1 (Ov t) (I1 t0) (m1 t0) ((0):Int) [0] λ(t1:Int) b1 =>
(.br 17 (decide (t1<((t.rs.map Rtr.v).length:Int))) (.pass (.pass (.join 2 (Ou t t1) (λ(t2:Bool)=>I2 t0 t1 t2) (λb2=>(.br 97 (decide (0<t1)) (.el 161 Rtr.v t.rs (λR=>Rf (t.rs.map Rtr.v) (ck (decide (0≤(W (t1-1)))) (ck (decide ((W (t1-1))<(t.rs.length:Int)))
(∀x1,t.rs[(W (t1-1)).toNat]?=some x1 →
(R x1))))) λx1 =>
(.el 257 Rtr.v t.rs (λR=>Rf (t.rs.map Rtr.v) (ck (decide (0≤t1)) (ck (decide (t1<(t.rs.length:Int)))
(∀x2,t.rs[t1.toNat]?=some x2 →
(R x2))))) λx2 =>
(.bk 2 b2 ((decide (x2.id≤x1.id)):Bool) [0])))
(.bk 2 b2 ((false):Bool) [0]))) λ(t2:Bool) =>
(.br 1 t2 (.ret (25))
(.bk 1 b1 ((W (t1+1)):Int) [0])))))
(.callP (NO t.ls)
(.br 129 ((t.ls).any j9) (.ret (2))
(.handQ 0 (Pr t) [0,33] ((Pq t ((t).ls.any λy=>gJ y t)).st) EG ((t).rs.length≤1000000) (unk_h t)
(.br 1 (t.ls.any λy=>gJ y t) (.ret (4))
(.callP (Pm t.ls)
(.br 65 ((t.ls).any kr) (.ret (8))
(.loop 3 (Ot t) (I3 t0 t1) (m3 t0 t1) ((0):Int) [0] λ(t3:Int) b3 =>
(.br 17 (decide (t3<((t.ls.map Lnk.v).length:Int))) (.pass (.pass (.join 4 (Oq t t3) (λ(t4:Bool)=>I4 t0 t1 t3 t4) (λb4=>(.br 97 (decide (0<t3)) (.el 161 Lnk.v t.ls (λR=>Rf (t.ls.map Lnk.v) (ck (decide (0≤(W (t3-1)))) (ck (decide ((W (t3-1))<(t.ls.length:Int)))
(∀x3,t.ls[(W (t3-1)).toNat]?=some x3 →
(R x3))))) λx3 =>
(.el 241 Lnk.v t.ls (λR=>Rf (t.ls.map Lnk.v) (ck (decide (0≤t3)) (ck (decide (t3<(t.ls.length:Int)))
(∀x4,t.ls[t3.toNat]?=some x4 →
(R x4))))) λx4 =>
(.callP (zk x3 x4)
(.bk 4 b4 ((decide (0≤(re x3 x4))):Bool) [0]))))
(.bk 4 b4 ((false):Bool) [0]))) λ(t4:Bool) =>
(.br 1 t4 (.ret (25))
(.bk 3 b3 ((W (t3+1)):Int) [0])))))
(.ret (0))))))))))))))))))
def CS(t:Tpl)(I0:Bool→Prop)(I1:Bool→Int→Prop)(m1:Bool→Int→Nat)(I2:Bool→Int→Bool→Prop)(I3:Bool→Int→Int→Prop)(m3:Bool→Int→Int→Nat)(I4:Bool→Int→Int→Bool→Prop)(r0:Int):=(zq t I0 I1 m1 I2 I3 m3 I4).vp zr r0
theorem U1(t:Tpl)(ok:Jk t):∃I0 I1 m1 I2 I3 m3 I4,CS t I0 I1 m1 I2 I3 m3 I4 (aB t):=by
 refine⟨λb=>b=decide (24<t.rs.length∨60<t.ls.length),λ_ i=>dU t.rs (λx y=>x.id<y.id) i,λ_ i=>t.rs.length-i.toNat,
  λ_ i b=>b=true↔0<i∧∃x y,t.rs[(W (i-1)).toNat]?=some x∧t.rs[i.toNat]?=some y∧¬x.id<y.id,λ_ _ i=>dU t.ls cP i,λ_ _ i=>t.ls.length-i.toNat,
  λ_ _ i b=>b=true↔0<i∧∃x y,t.ls[(W (i-1)).toNat]?=some x∧t.ls[i.toNat]?=some y∧¬cP x y,?_⟩
 simp only[Jk,okU,Blk.ok,az,List.length_map]at ok
 dsimp only[CS,zq,Jj,Ax.vp,Ax.vc];simp only[vcU,rfU,List.length_map]
 refine⟨⟨λc=>(decide_eq_true (.inl (by omega))).symm,λc=>decide_eq_decide.mpr (by omega)⟩,?_⟩
 rintro _ rfl
 unfold aB
 refine⟨λc=>by rw[if_pos (of_decide_eq_true c)],λc=>?_⟩
 have c:=of_decide_eq_false c
 rw[if_neg c]
 refine⟨λd=>by rw[if_pos ((sf _).mp d)],λd=>?_⟩
 have d:∀x∈t.rs,1≤x.id∧x.id≤99:=Classical.byContradiction λq=>by rw[(sf _).mpr q]at d;cases d
 rw[if_neg (not_not_intro d)]
 refine⟨dU.zero,λi h=>⟨λc1=>⟨⟨λh0=>?_,λh0=>?_⟩,λb hb=>?_⟩,λc1=>?_⟩⟩
 ·obtain⟨g1,g2⟩:=h.rng (by omega) h0 c1
  refine⟨g1,g2,λx hx=>⟨h.idx,c1,λy hy=>⟨λe=>⟨h0,x,y,hx,hy,by omega⟩,?_⟩⟩⟩
  rintro⟨_,x',y',hx',hy',p⟩
  rw[hx]at hx';cases hx';rw[hy]at hy';cases hy';omega
 ·exact⟨nofun,λe=>absurd e.1 h0⟩
 ·obtain⟨n1,n2⟩:=h.next (by omega) c1 hb
  exact⟨λe=>by rw[if_pos (n1 e)],n2⟩
 have hP:=h.done c1 λ_ _ _ q r=>Int.lt_trans q r
 rw[if_neg (not_not_intro hP)]
 refine⟨λe=>by rw[if_pos ((uh _).mp e)],λe=>?_⟩
 have e:∀x∈t.ls,gO x:=Classical.byContradiction λq=>by rw[(uh _).mpr q]at e;cases e
 rw[if_neg (not_not_intro e)]
 refine⟨by omega,λf=>by rw[if_pos ((rR hP).mp f)],λf=>?_⟩
 have f:∀l∈t.ls,aK t l.a=true∧aK t l.b=true:=Classical.byContradiction λq=>by rw[(rR hP).mpr q]at f;cases f
 rw[if_neg (not_not_intro f)]
 refine⟨λg=>by rw[if_pos ((uD _).mp g)],λg=>?_⟩
 have g:∀x∈t.ls,x.a<x.b:=Classical.byContradiction λq=>by rw[(uD _).mpr q]at g;cases g
 rw[if_neg (not_not_intro g)]
 refine⟨dU.zero,λi h=>⟨λc1=>⟨⟨λh0=>?_,λh0=>?_⟩,λb hb=>?_⟩,λc1=>?_⟩⟩
 ·obtain⟨g1,g2⟩:=h.rng (by omega) h0 c1
  refine⟨g1,g2,λx hx=>⟨h.idx,c1,λy hy=>⟨λe=>⟨h0,x,y,hx,hy,λq=>by have:=(ld x y).mpr q;omega⟩,?_⟩⟩⟩
  rintro⟨_,x',y',hx',hy',p⟩
  rw[hx]at hx';cases hx';rw[hy]at hy';cases hy'
  exact Classical.byContradiction λq=>p ((ld x y).mp (by omega))
 ·exact⟨nofun,λe=>absurd e.1 h0⟩
 ·obtain⟨n1,n2⟩:=h.next (by omega) c1 hb
  exact⟨λe=>by rw[if_pos (n1 e)],n2⟩
 ·rw[if_neg (not_not_intro (h.done c1 λ_ _ _ q r=>by unfold cP at *;omega))]
def rh(t:Tpl):PC Tryz.prog:=⟨40,[(.a [(.s 2),(.s 5)])],[.agg [.sl 2 (t.rs.map Rtr.v) false,.sl 5 (t.ls.map Lnk.v) false]],zr (aB t),ao.of_ok λok=>(U1 t ok).elim λI0 h=>h.elim λI1 h=>h.elim λm1 h=>h.elim λI2 h=>h.elim λI3 h=>h.elim λm3 h=>h.elim λI4 h=>aj (sh:=.k) (enc:=zr) (a:=(zq t I0 I1 m1 I2 I3 m3 I4).an) h (by kernel_rfl) (AV.pureB_ok rfl),ah (by kernel_rfl)⟩
def ge(t:Tpl):Bool:=aB t==0
def Qh(t:Tpl):=okL [.agg [.sl 2 (t.rs.map Rtr.v) false,.sl 5 (t.ls.map Lnk.v) false]]
def vb(r:Bool):AV:=.bool r
def va(t:Tpl):Ax Tryz.prog noS (Bool):=
 (.callP (rh t)
(.ret ((aB t)==0)))
def Ak(t:Tpl)(r0:Bool):=(va t).vp vb r0
theorem Qg(t:Tpl)(ok:Qh t):Ak t (ge t):=by
 dsimp only[Ak,va,noS,Ax.vp,Ax.vc];simp only[vcU,rfU,List.length_map]
 rfl
def EF(t:Tpl):PC Tryz.prog:=⟨122,[(.a [(.s 2),(.s 5)])],[.agg [.sl 2 (t.rs.map Rtr.v) false,.sl 5 (t.ls.map Lnk.v) false]],vb (ge t),ao.of_ok λok=>aj (sh:=.k) (enc:=vb) (a:=(va t).an) (Qg t ok) (by kernel_rfl) (AV.pureB_ok rfl),ah (by kernel_rfl)⟩
def Fr(i:Nat):Nat:=1000+i
theorem nY{i b:Nat}(hb:b<1000):(Fr i=b)=False:=by unfold Fr;simp;omega
theorem bw{i b:Nat}(hb:b<1000):(b=Fr i)=False:=by unfold Fr;simp;omega
theorem gI{i b:Nat}(hi:i<1000)(hb:2000≤b):(Fr i=b)=False:=by unfold Fr;simp;omega
theorem rI{i j:Nat}:(Fr i=Fr j)=(i=j):=by unfold Fr;simp
def eL(bs fs:Nat→Nat)(b:Nat):Nat:=if 1000≤b∧b<2000 then fs (b-1000)else bs b
theorem iR{bs fs:Nat→Nat}{i:Nat}(h:i<1000):eL bs fs (Fr i)=fs i:=by unfold eL Fr;rw[if_pos (by omega),show 1000+i-1000=i by omega]
theorem eo{bs fs:Nat→Nat}{b:Nat}(h:b<1000):eL bs fs b=bs b:=if_neg (by omega)
section
variable {ρ : Type} (kk : Nat) (v : ρ → AV)
def GR(rows:List (List ρ))(h:Hp):Hp:=λb=>if 1000≤b∧b<2000 then(rows[b-1000]?).map (λr=>Blk.vec kk (r.map v))else h b
variable {kk v}
theorem kG{rows:List (List ρ)}{h:Hp}{b:Nat}(hb:b<1000):GR kk v rows h b=h b:=if_neg (by omega)
theorem gz{rows:List (List ρ)}{h:Hp}{i:Nat}{r:List ρ}(hr:rows[i]?=some r)(hl:rows.length≤1000):GR kk v rows h (Fr i)=some (.vec kk (r.map v)):=by
 have:i<rows.length:=(List.getElem?_eq_some_iff.mp hr).1
 unfold GR Fr
 rw[if_pos (by omega),show 1000+i-1000=i by omega,hr];rfl
theorem av.nfR(hpu:∀x,(v x).pureB=true){k n:Nat}{tm:Nat→AV}{hp:Hp}{nx:Nat}(rows:List (List ρ))(ts:List (Nat×AV))(hs:List (Option Blk))(bs fs:Nat→Nat)
    (hT:∀p∈ts,tm p.1=p.2.ren (eL bs fs)∧p.2.bel 2000) (hH:∀i x,hs[i]?=some (some x)→hp (bs i)=some (x.ren (eL bs fs))∧x.bel 2000)
    (hl:hs.length≤1000) (hr:rows.length≤1000) (hR:∀i r,rows[i]?=some r→hp (fs i)=some (.vec kk (r.map v)))
    (h1:∀i j,i<hs.length→j<hs.length→bs i=bs j→i=j) (h2:∀i j,i<rows.length→j<rows.length→fs i=fs j→i=j) (h3:∀i j,i<hs.length→j<rows.length→bs i≠fs j)
    (hk:∀b,b<k→bs b=b) (hkl:k≤1000):av k n ⟨tm,hp,nx⟩ ⟨cV ts,GR kk v rows (hpL 0 hs),2000⟩:=by
  have pur:∀r:List ρ,bO (r.map v):=λr=>aC (ab hpu r)
  have low:∀{b x},hpL 0 hs b=some x→hs[b]?=some (some x):=λ{b x} e=>by
    rw[xz,if_pos (Nat.zero_le _),Nat.sub_zero]at e
    cases e':hs[b]? with
    | none=>rw[e']at e;cases e
    | some y=>rw[e']at e;exact congrArg some e
  have cls:∀{b x},GR kk v rows (hpL 0 hs) b=some x→(∃i r,b=Fr i∧i<rows.length∧rows[i]?=some r∧x=.vec kk (r.map v))∨(b<hs.length∧hs[b]?=some (some x)):=λ{b x} e=>by
    unfold GR at e
    split at e
    · rename_i hb
      obtain⟨r,hr,rfl⟩:=Option.map_eq_some_iff.mp e
      exact .inl ⟨b-1000,r,by unfold Fr;omega,(List.getElem?_eq_some_iff.mp hr).1,hr,rfl⟩
    · have:=low e
      exact .inr ⟨(List.getElem?_eq_some_iff.mp this).1,this⟩
  refine av.ren (eL bs fs) (λt=>?_) (λb x e=>?_) (λb b' e e' he=>?_) (λb hb=>?_) (by show k≤2000;omega)
  · show cV ts t=.unk∨(tm t=(cV ts t).ren _∧(cV ts t).bel 2000)
    clear hH hR h1 h2 h3 cls low hl
    induction ts with
    | nil=>exact .inl rfl
    | cons p l ih =>
      obtain⟨t',x⟩:=p
      by_cases ht:t=t'
      · subst ht
        have:=hT (t,x) (by simp)
        simp only[cV,↓reduceIte]
        exact .inr this
      · have:=ih (λp hp=>hT p (by simp[hp]))
        simp only[cV,if_neg ht]
        exact this
  · show b<2000∧hp (eL bs fs b)=some (x.ren (eL bs fs))∧x.bel 2000
    rcases cls e with⟨i,r,rfl,hi,hr',rfl⟩|⟨hb,e⟩
    · refine⟨by unfold Fr;omega,?_,bg (pur r)⟩
      rw[iR (by omega),hR i r hr',Blk.ren,be _ (pur r)]
    · obtain⟨g1,g2⟩:=hH b x e
      exact⟨by omega,by rw[eo (by omega)];exact g1,g2⟩
  · have c1:∀{b},GR kk v rows (hpL 0 hs) b≠none→(∃i,b=Fr i∧i<rows.length)∨b<hs.length:=λ{b} e=>by
      cases q:GR kk v rows (hpL 0 hs) b with
      | none=>exact absurd q e
      | some x => rcases cls q with ⟨i, r, g1, g2, _⟩ | ⟨g, _⟩
                  · exact .inl ⟨i,g1,g2⟩
                  · exact .inr g
    rcases c1 e with⟨i,rfl,hi⟩|hb<;>rcases c1 e' with⟨j,rfl,hj⟩|hb'
    · rw[iR (by omega),iR (by omega)]at he
      rw[h2 i j hi hj he]
    · rw[iR (by omega),eo (by omega)]at he
      exact absurd he.symm (h3 b' i hb' hi)
    · rw[eo (by omega),iR (by omega)]at he
      exact absurd he (h3 b j hb hj)
    · rw[eo (by omega),eo (by omega)]at he
      exact h1 b b' hb hb' he
  · rw[eo (by omega)];exact hk b hb
end
theorem av.nilvecM{k n:Nat}{tm:Nat→AV}{hp:Hp}{nx:Nat}{kq:Option Nat}{ks:List MK}{vs:List AV}(b0 i kk k':Nat)(hb:hp b0=some (.map kq ks vs))(h:vs[i]?=some (.sl kk [] true))(hk:k≤nx) :
  av k n ⟨tm,hp,nx⟩ ⟨tm,upd (upd hp b0 (some (.map kq ks (vs.set i (.vec nx))))) nx (some (.vec k' [])),nx+1⟩:=by
 rintro P c a w ⟨h0,A,μ,H⟩
 obtain⟨hd0,q1,⟨q2,ents,ck,q3,q4,q5,q6⟩,q8⟩:=H.blk b0 _ hb
 have hi:i<vs.length:=(List.getElem?_eq_some_iff.mp h).1
 have hv0:=(RVL.length q5)
 obtain⟨vi,hvi⟩:∃vi,(ents.toList.map (·.val))[i]?=some vi:=⟨(ents.toList.map (·.val))[i]'(by omega),List.getElem?_eq_getElem (by omega)⟩
 obtain⟨ad,hv⟩:=RV.nilsl (RVL.get2 q5 h hvi)
 obtain⟨f1,f2⟩:μ nx=none∧hp nx=none:=H.fr nx (Nat.le_refl _)
 let hd:Hd:=⟨some ad,0,k',0,0⟩
 have hne:b0≠nx:=λe=>by subst e;rw[f2]at hb;cases hb
 have hle:bh μ (upd μ nx (some hd)):=by
  intro b hd' e
  by_cases g:b=nx
  ·subst g;rw[f1]at e;cases e
  ·rw[al _ _ g];exact e
 have key:=H.add nx f2 (upd μ nx (some hd)) hle (λb hb=>al _ _ hb) hd (ai _ _ _) (.vec k' []) ⟨rfl,.inl ⟨rfl,rfl⟩⟩ (λe=>by cases e) (λ_ _ _ _ _ _ e=>by cases e)
 have hswap:upd (upd hp b0 (some (.map kq ks (vs.set i (.vec nx))))) nx (some (.vec k' []))=upd (upd hp nx (some (.vec k' []))) b0 (some (.map kq ks (vs.set i (.vec nx)))):=by
  funext b
  by_cases e1:b=b0
  ·subst e1;rw[ai,al _ _ hne,ai]
  ·rw[al _ _ e1]
   by_cases e2:b=nx
   ·subst e2;rw[ai,ai]
   ·rw[al _ _ e2,al _ _ e1,al _ _ e2]
 rw[hswap]
 have hb1:upd hp nx (some (.vec k' [])) b0=some (.map kq ks vs):=by rw[al _ _ hne];exact hb
 have fin:=key.say hb1 (y:=.map kq ks (vs.set i (.vec nx))) λhd1 e1 e2=>by
  obtain⟨r2,ents',ck',r3,r4,r5,r6⟩:=e2
  rw[hle _ _ q1]at e1;cases e1
  rw[q3]at r3;cases r3
  refine⟨r2,ents,ck,q3,q4,RVL.setAt r5 hvi ⟨hd,ai _ _ _,hv⟩,λx hx=>?_⟩
  rcases List.mem_or_eq_of_mem_set hx with hx|rfl
  ·exact q6 x hx
  ·rfl
 exact⟨h0,A,upd μ nx (some hd),fin.free λb hb=>⟨show nx≤b by have:nx+1≤b:=hb;omega,by have:nx+1≤b:=hb;omega⟩⟩
def relx(cost:Int)(out:Dis)(op:Dis)(s:Stp):Dis:=
 if bn out s.to=true then op else if(bn op s.to=false∨W (cost+s.cost)<ay op s.to 0)then bJ op s.to (W (cost+s.cost))else op
def Ek(L:Lks):Nat→Dis→Dis→Dis
 | 0,out,_=>out
 | n+1,out,op=>if op=[]then out else
   if(bJ out (bst op) (ay op (bst op) 0)).length=L.length then bJ out (bst op) (ay op (bst op) 0)
   else Ek L n (bJ out (bst op) (ay op (bst op) 0)) ((ay L (bst op) []).foldl (relx (ay op (bst op) 0) (bJ out (bst op) (ay op (bst op) 0))) (mdl op (bst op)))
def bt(L:Lks)(f:Int):Dis:=if bn L f=true then Ek L L.length [] (bJ [] f 0)else []
def lL(L:Lks):Prop:=L.length≤1000000∧(au L).Nodup∧(∀x∈au L,x≠0∧-9223372036854775808≤x∧x≤9223372036854775807)∧∀p∈L,p.2.length≤1000000∧∀s∈p.2,s.to∈au L
structure iZ (L:Lks) (out op:Dis):Prop where
  no:(au out).Nodup
  np:(au op).Nodup
  ko:∀x∈au out,x∈au L
  kp:∀x∈au op,x∈au L
  di:∀x∈au op,x ∉ au out
theorem cE{α β:Type}(l:List (α×β)):(au l).length=l.length:=List.length_map _
theorem iZ.len1{L:Lks}{out op:Dis}(h:iZ L out op):out.length≤L.length:=by
 have:=List.Nodup.length_le_of_subset h.no h.ko
 rwa [cE,cE]at this
theorem iZ.len2{L:Lks}{out op:Dis}(h:iZ L out op):op.length≤L.length:=by
 have:=List.Nodup.length_le_of_subset h.np h.kp
 rwa [cE,cE]at this
theorem J5{op:Dis}(h:op≠[]):∃c,(bst op,c)∈op∧∀x∈op,¬bfr x (bst op,c):=by
 obtain⟨b,h1,h2,h3⟩:=kl h
 have:bst op=b.1:=by unfold bst;rw[h1]
 rw[this]
 exact⟨b.2,h2,h3⟩
theorem OS{op:Dis}(h:op≠[]):bst op∈au op:=by
 obtain⟨c,h1,_⟩:=J5 h
 exact aM.mpr ⟨c,h1⟩
theorem iZ.pop{L:Lks}{out op:Dis}(h:iZ L out op){b c:Int}(hb:b∈au op):iZ L (bJ out b c) (mdl op b)∧(bJ out b c).length=out.length+1:=by
 have hbo:=h.di b hb
 refine⟨⟨fe h.no,D8 h.np,λx hx=>?_,λx hx=>?_,λx hx hx2=>?_⟩,?_⟩
 ·obtain⟨v,hv⟩:=aM.mp hx
  rcases(cZ h.no).mp hv with e|⟨e,_⟩
  ·cases e;exact h.kp _ hb
  ·exact h.ko _ (aM.mpr ⟨_,e⟩)
 ·obtain⟨v,hv⟩:=aM.mp hx
  exact h.kp _ (aM.mpr ⟨_,((pR h.np).mp hv).1⟩)
 ·obtain⟨v,hv⟩:=aM.mp hx
  obtain⟨v2,hv2⟩:=aM.mp hx2
  obtain⟨q1,q2⟩:=(pR h.np).mp hv
  rcases(cZ h.no).mp hv2 with e|⟨e,_⟩
  ·cases e;exact q2 rfl
  ·exact h.di _ (aM.mpr ⟨_,q1⟩) (aM.mpr ⟨_,e⟩)
 ·rw[GL,if_neg]
  unfold bn;simpa using hbo
theorem iZ.relx{L:Lks}{out op:Dis}(h:iZ L out op){c:Int}{s:Stp}(hs:s.to∈au L):iZ L out (relx c out op s):=by
 unfold Go.Proofs.YtdbdndmdbbihbaaGreatDoor.relx
 split
 ·exact h
 rename_i h1
 have h1:s.to ∉ au out:=by unfold bn at h1;simpa using h1
 split
 ·refine⟨h.no,fe h.np,h.ko,λx hx=>?_,λx hx=>?_⟩
  all_goals
   obtain⟨v,hv⟩:=aM.mp hx
   rcases(cZ h.np).mp hv with e|⟨e,_⟩
  ·cases e;exact hs
  ·exact h.kp _ (aM.mpr ⟨_,e⟩)
  ·cases e;exact h1
  ·exact h.di _ (aM.mpr ⟨_,e⟩)
 ·exact h
theorem iZ.fold{L:Lks}{out:Dis}{c:Int}:∀{l:List Stp} {op:Dis},iZ L out op→(∀s∈l,s.to∈au L)→iZ L out (l.foldl (Go.Proofs.YtdbdndmdbbihbaaGreatDoor.relx c out) op)
 | [],op,h,_=>h
 | s::l,op,h,hs=>(h.relx (hs s (by simp))).fold λx hx=>hs x (by simp[hx])
def TV(links:(List (Int×List Stp)))(from_:Int):=okL [.mp none (links.map λp:Int×List Stp=>MK.n p.1) (links.map λp:Int×List Stp=>(λl:List Stp=>AV.sl 2 (l.map Stp.v) false) p.2),.int from_]
def NJ(links:(List (Int×List Stp)))(t0:(List (Int×Int))×(List (Int×Int))):NF:=⟨[(0,.k,.mp none (links.map λp:Int×List Stp=>MK.n p.1) (links.map λp:Int×List Stp=>(λl:List Stp=>AV.sl 2 (l.map Stp.v) false) p.2)),(5,.k,.mref 0),(8,.k,.mref 1)],[.map none (t0.2.map λp=>MK.n p.1) (t0.2.map λp=>AV.int p.2) (ab (λ_=>rfl) _),.map none (t0.1.map λp=>MK.n p.1) (t0.1.map λp=>AV.int p.2) (ab (λ_=>rfl) _)]⟩
def NI(links:(List (Int×List Stp)))(t0:(List (Int×Int))×(List (Int×Int)))(t1:Int×(List (Int×Int))):NF:=⟨[(0,.k,.mp none (links.map λp:Int×List Stp=>MK.n p.1) (links.map λp:Int×List Stp=>(λl:List Stp=>AV.sl 2 (l.map Stp.v) false) p.2)),(5,.k,.mref 0),(8,.k,.mref 1),(12,.k,.int (ay t0.1 (bst t0.1) 0)),(79,.k,.sl 2 ((ay links (bst t0.1) []).map Stp.v) false),(80,.k,.int (((ay links (bst t0.1) []).map Stp.v).length:Int)),(81,.k,.int t1.1)],[.map none ((bJ t0.2 (bst t0.1) (ay t0.1 (bst t0.1) 0)).map λp=>MK.n p.1) ((bJ t0.2 (bst t0.1) (ay t0.1 (bst t0.1) 0)).map λp=>AV.int p.2) (ab (λ_=>rfl) _),.map none (t1.2.map λp=>MK.n p.1) (t1.2.map λp=>AV.int p.2) (ab (λ_=>rfl) _)]⟩
def NH(links:(List (Int×List Stp)))(t0:(List (Int×Int))×(List (Int×Int)))(t1:Int×(List (Int×Int)))(x1:Stp)(t2:Bool):NF:=⟨[(0,.k,.mp none (links.map λp:Int×List Stp=>MK.n p.1) (links.map λp:Int×List Stp=>(λl:List Stp=>AV.sl 2 (l.map Stp.v) false) p.2)),(5,.k,.mref 0),(8,.k,.mref 1),(12,.k,.int (ay t0.1 (bst t0.1) 0)),(14,.k,.ref 2 0),(79,.k,.sl 2 ((ay links (bst t0.1) []).map Stp.v) false),(80,.k,.int (((ay links (bst t0.1) []).map Stp.v).length:Int)),(81,.k,.int t1.1),(109,.k,.bool t2)],[.map none ((bJ t0.2 (bst t0.1) (ay t0.1 (bst t0.1) 0)).map λp=>MK.n p.1) ((bJ t0.2 (bst t0.1) (ay t0.1 (bst t0.1) 0)).map λp=>AV.int p.2) (ab (λ_=>rfl) _),.map none (t1.2.map λp=>MK.n p.1) (t1.2.map λp=>AV.int p.2) (ab (λ_=>rfl) _),.box (.agg [.int x1.to,.int x1.cost])]⟩
@[reducible] def IR:Nat→Type
 | 0=>(List (Int×Int))×(List (Int×Int))
 | 1=>Int×(List (Int×Int))
 | 2=>Bool
 | _=>Unit
def yJ(r:(List (Int×Int))):AV:=.mp none (r.map λp:Int×Int=>MK.n p.1) (r.map λp:Int×Int=>AV.int p.2)
def yI(links:(List (Int×List Stp)))(from_:Int)(I0:((List (Int×Int))×(List (Int×Int)))→Prop)(m0:((List (Int×Int))×(List (Int×Int)))→Nat)(I1:(List (Int×Int))×(List (Int×Int))→(Int×(List (Int×Int)))→Prop)(m1:(List (Int×Int))×(List (Int×Int))→(Int×(List (Int×Int)))→Nat)(I2:(List (Int×Int))×(List (Int×Int))→Int×(List (Int×Int))→Stp→Bool→Prop):Ax Tryz.prog IR ((List (Int×Int))):=
 (.mn 80 (wW false (λl:List Stp=>AV.sl 2 (l.map Stp.v) false) links from_ []) (.br 80 (bn links from_) (.mn 240 (pN AV.int ([]:List (Int×Int)) from_ 0) (.loop 0 (NJ links) I0 m0 (bJ ([]:List (Int×Int)) from_ 0,([]:List (Int×Int))) [16,208] λ(t0:(List (Int×Int))×(List (Int×Int))) b0 =>
(.say (ck (decide ((t0.1.map λp=>MK.n p.1).length≤maxLen))) (.br 50 (decide (0<((t0.1.map λp=>MK.n p.1).length:Int))) (.pass (.handQ 0 (C4 links t0.2 t0.1 0) [0,1] ((C4 links t0.2 t0.1 (bst t0.1)).st) ID (Gw t0.1) (dst_h links t0.2 t0.1)
(.mn 34 (fF AV.int t0.1 (bst t0.1) 0) (.mn 98 (Su AV.int t0.1 (bst t0.1)) (.mn 162 (pN AV.int t0.2 (bst t0.1) (ay t0.1 (bst t0.1) 0)) (.say (λR=>ck (decide (((bJ t0.2 (bst t0.1) (ay t0.1 (bst t0.1) 0)).map λp=>MK.n p.1).length≤maxLen))
((ck (decide ((links.map λp=>MK.n p.1).length≤maxLen))
R))) (.br 258 ((((bJ t0.2 (bst t0.1) (ay t0.1 (bst t0.1) 0)).map λp=>MK.n p.1).length:Int)==((links.map λp=>MK.n p.1).length:Int)) (.say (Rf ((bJ t0.2 (bst t0.1) (ay t0.1 (bst t0.1) 0)).map λp=>AV.int p.2)) (.cmdL (.frzM 0 ((bJ t0.2 (bst t0.1) (ay t0.1 (bst t0.1) 0)).map λp=>AV.int p.2) (ab (λ_=>rfl) _)) (.ret (bJ t0.2 (bst t0.1) (ay t0.1 (bst t0.1) 0)))))
(.mn 290 (wW true (λl:List Stp=>AV.sl 2 (l.map Stp.v) false) links (bst t0.1) []) (.say (ck (bn links (bst t0.1))) (.loop 1 (NI links t0) (I1 t0) (m1 t0) (0,mdl t0.1 (bst t0.1)) [0,1] λ(t1:Int×(List (Int×Int))) b1 =>
(.br 18 (decide (t1.1<(((ay links (bst t0.1) []).map Stp.v).length:Int))) (.el 18 Stp.v (ay links (bst t0.1) []) (λR=>Rf ((ay links (bst t0.1) []).map Stp.v) (ck (decide (0≤t1.1)) (ck (decide (t1.1<((ay links (bst t0.1) []).length:Int)))
(∀x1,(ay links (bst t0.1) [])[t1.1.toNat]?=some x1 →
(R x1))))) λx1 =>
(.mn 130 (fF AV.int (bJ t0.2 (bst t0.1) (ay t0.1 (bst t0.1) 0)) x1.to 0) (.br 242 (bn (bJ t0.2 (bst t0.1) (ay t0.1 (bst t0.1) 0)) x1.to) (.bk 1 b1 (W (t1.1+1),t1.2) [0,1])
(.mn 290 (fF AV.int t1.2 x1.to 0) (.join 2 (NH links t0 t1 x1) (λ(t2:Bool)=>I2 t0 t1 x1 t2) (λb2=>(.br 434 (!(bn t1.2 x1.to)) (.bk 2 b2 ((true):Bool) [0,1,50])
(.bk 2 b2 ((decide ((W ((ay t0.1 (bst t0.1) 0)+x1.cost))<(ay t1.2 x1.to 0))):Bool) [0,1,50]))) λ(t2:Bool) =>
(.br 3 t2 (.mn 115 (pN AV.int t1.2 x1.to (W ((ay t0.1 (bst t0.1) 0)+x1.cost))) (.bk 1 b1 (W (t1.1+1),bJ t1.2 x1.to (W ((ay t0.1 (bst t0.1) 0)+x1.cost))) [0,1]))
(.bk 1 b1 (W (t1.1+1),t1.2) [0,1])))))))
(.bk 0 b0 (t1.2,bJ t0.2 (bst t0.1) (ay t0.1 (bst t0.1) 0)) [0,1]))))))))))))
(.say (Rf (t0.2.map λp=>AV.int p.2)) (.cmdL (.frzM 0 (t0.2.map λp=>AV.int p.2) (ab (λ_=>rfl) _)) (.ret (t0.2))))))))
(.say (Rf (([]:List (Int×Int)).map λp=>AV.int p.2)) (.cmdL (.frzM 16 (([]:List (Int×Int)).map λp=>AV.int p.2) (ab (λ_=>rfl) _)) (.ret (([]:List (Int×Int))))))))
def C8(links:(List (Int×List Stp)))(from_:Int)(I0:((List (Int×Int))×(List (Int×Int)))→Prop)(m0:((List (Int×Int))×(List (Int×Int)))→Nat)(I1:(List (Int×Int))×(List (Int×Int))→(Int×(List (Int×Int)))→Prop)(m1:(List (Int×Int))×(List (Int×Int))→(Int×(List (Int×Int)))→Nat)(I2:(List (Int×Int))×(List (Int×Int))→Int×(List (Int×Int))→Stp→Bool→Prop)(r0:(List (Int×Int))):=(yI links from_ I0 m0 I1 m1 I2).vp yJ r0
theorem TU(L:Lks)(f:Int)(h:lL L)(ok:TV L f):∃I0 m0 I1 m1 I2,C8 L f I0 m0 I1 m1 I2 (bt L f):=by
 obtain⟨h1,h2,h3,h4⟩:=h
 have hml:=dp
 refine⟨λt=>iZ L t.2 t.1∧t.2.length<L.length∧Ek L (L.length-t.2.length) t.2 t.1=bt L f,λt=>L.length-t.2.length,
  λt0 t=>dW (ay L (bst t0.1) []) (relx (ay t0.1 (bst t0.1) 0) (bJ t0.2 (bst t0.1) (ay t0.1 (bst t0.1) 0))) (mdl t0.1 (bst t0.1)) t.1 t.2,λt0 t=>(ay L (bst t0.1) []).length-t.1.toNat,
  λt0 t x b=>b=decide (bn t.2 x.to=false∨W (ay t0.1 (bst t0.1) 0+x.cost)<ay t.2 x.to 0),?_⟩
 dsimp only[C8,yI,IR,Ax.vp,Ax.vc];simp only[vcU,rfU,List.length_map]
 refine⟨λc=>⟨?_,?_⟩,λc=>by rw[bt,if_neg (by rw[c];simp)]⟩
 ·have hf:f∈au L:=of_decide_eq_true c
  have h0:0<L.length:=by rw[←cE];exact List.length_pos_of_mem hf
  refine⟨⟨by simp[au],by simp[bJ,au],by simp[au],by simp[bJ,au];simpa[au]using hf,by simp[au]⟩,h0,by rw[bt,if_pos c];rfl⟩
 rintro⟨op,out⟩ ⟨hI,hlt,hD⟩
 simp only at hI hlt hD ⊢
 have q1:=hI.len1
 have q2:=hI.len2
 obtain⟨n,hn⟩:∃n,L.length-out.length=n+1:=⟨L.length-out.length-1,by omega⟩
 rw[hn,Ek]at hD
 refine⟨by omega,λc1=>?_,λc1=>?_⟩
 ·have hne:op≠[]:=λe=>by rw[e]at c1;simp at c1
  rw[if_neg hne]at hD
  have hb:=OS hne
  obtain⟨hP,hPl⟩:=hI.pop (c:=ay op (bst op) 0) hb
  have q3:=hP.len1
  refine⟨λx hx=>h3 _ (hI.kp _ (aM.mpr ⟨x.2,hx⟩)),by omega,by omega,λc2=>?_,λc2=>?_⟩
  ·rw[if_pos (by have:=eq_of_beq c2;omega)]at hD;exact hD
  ·have c2:¬(bJ out (bst op) (ay op (bst op) 0)).length=L.length:=λe=>by rw[e]at c2;simp at c2
   rw[if_neg c2]at hD
   have hbL:=hI.kp _ hb
   have hst:(ay L (bst op) []).length≤1000000∧∀s∈ay L (bst op) [],s.to∈au L:=h4 _ (cY (z:=[]) (decide_eq_true hbL))
   refine⟨decide_eq_true hbL,dW.zero,?_⟩
   rintro⟨i,op2⟩ hG
   simp only at hG ⊢
   refine⟨λc3=>⟨hG.idx,c3,λx hx=>⟨λe=>?_,λe=>⟨⟨λe2=>?_,λe2=>?_⟩,?_⟩⟩⟩,λc3=>?_⟩
   ·refine hG.step (by omega) hx ?_
    rw[relx,if_pos e]
   ·rw[show bn op2 x.to=false by simpa using e2];simp
   ·rw[show bn op2 x.to=true by simpa using e2];simp
   ·rintro _ rfl
    refine⟨λe2=>?_,λe2=>?_⟩
    ·refine hG.step (by omega) hx ?_
     rw[relx,if_neg (by rw[e];simp),if_pos (of_decide_eq_true e2)]
    ·refine hG.step (by omega) hx ?_
     rw[relx,if_neg (by rw[e];simp),if_neg (of_decide_eq_false e2)]
   ·have hG:=hG.done c3
    have hF:=hP.fold (c:=ay op (bst op) 0) hst.2
    rw[←hG]at hF hD
    have:n=L.length-(bJ out (bst op) (ay op (bst op) 0)).length:=by omega
    rw[this]at hD
    exact⟨⟨hF,by omega,hD⟩,by omega⟩
 ·have:op=[]:=List.eq_nil_of_length_eq_zero (by omega)
  rw[if_pos this]at hD
  exact hD
def yK(links:(List (Int×List Stp)))(from_:Int)(h:lL links):PC Tryz.prog:=⟨179,[.k,.k],[.mp none (links.map λp:Int×List Stp=>MK.n p.1) (links.map λp:Int×List Stp=>(λl:List Stp=>AV.sl 2 (l.map Stp.v) false) p.2),.int from_],yJ (bt links from_),ao.of_ok λok=>(TU links from_ h ok).elim λI0 h=>h.elim λm0 h=>h.elim λI1 h=>h.elim λm1 h=>h.elim λI2 h=>aj (sh:=.k) (enc:=yJ) (a:=(yI links from_ I0 m0 I1 m1 I2).an) h (by kernel_rfl) (AV.pureB_ok rfl),ah (by kernel_rfl)⟩
end Go.Proofs.YtdbdndmdbbihbaaGreatDoor
