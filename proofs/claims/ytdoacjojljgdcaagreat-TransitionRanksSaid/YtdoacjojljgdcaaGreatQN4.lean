/- Texts joined: Mx6 Mx8 G0 G1 G2 TP0 LP P0 TC1 TC2 ML SH1 TC3 TC4 FM SH2 RD1. -/
import Derived.Test.YtdoacjojljgdcaaGreatProg
import Derived.Test.YtdoacjojljgdcaaGreatQN3
set_option linter.unusedVariables false
set_option linter.unusedSimpArgs false
set_option linter.unusedSectionVars false
namespace Go.Am
def finS(k n:Nat)(res:List AR)(r:AV)(h':List (Option Blk)):X→S3→Prop
 | .exit _,_=>False
 | _,s=>∃s',Weak k n s s'∧(∃xs,resL s' res=some xs∧Sub (pack xs) r)∧∀b x,hpOf h' b=some x→s'.hp b=some x
theorem HSpec.introS{P:Program}{f:FuncId}{fn:Func}{af:AF}{args:List AV}{h:List Blk}{r:AV}{h':List (Option Blk)}(hf:P.funcs[f]?=some fn)(hc:cFunc P fn=some af)(hn:args.length≤af.n)
    (hw:AWP P h.length af.n af.body (finS h.length af.n af.res r h') (init af.n args h)):HSpec P f args h r h':=by
  intro w A μ cargs hH hmu hargs
  unfold cFunc at hc
  split at hc
  case h_1=>cases hc
  rename_i body hb
  split at hc
  case h_1=>cases hc
  rename_i rs hrs
  cases hc
  simp only at hw hn
  have hl:=hargs.length
  let c:Ctx:=⟨w,ownOf μ (hpOf (h.map some)),A,μ⟩
  refine calls_of_wp hf hb ?_
  have H0:Rel P h.length c fn.ntmps (init fn.ntmps args h) { tmps:=cargs.toArray++Array.replicate (fn.ntmps-cargs.toArray.size) undef,defers:=[] } w:=by
    refine⟨hmu,A,μ,λt=>?_,?_,rfl,λb x hx=>?_,hH.inj,hH.lt,λb hb=>⟨hmu b hb,?_⟩,⟨rfl,rfl,rfl,Nat.le_refl _,λ_ _ _=>rfl⟩,λ_ h=>h,λ_ h=>.inl h,MuLe.refl _⟩
    · show RV w A (args.getD t .unk) μ _
      by_cases ht:t<args.length
      · have e1:args[t]?=some (args.getD t .unk):=by simp[List.getD,List.getElem?_eq_getElem ht]
        obtain⟨v,e2,e3⟩:=hargs.get e1
        have:(cargs.toArray++Array.replicate (fn.ntmps-cargs.toArray.size) undef).getD t undef=v:=by
          have hlt:t<cargs.length:=by omega
          have hv:cargs[t]=v:=by rw[List.getElem?_eq_getElem hlt]at e2;exact Option.some.inj e2
          rw[Array.getD_eq_getD_getElem?,Array.getElem?_append_left (by simpa using hlt)]
          simp[hlt,hv]
        rw[this];exact e3
      · have:args.getD t .unk=.unk:=by simp[List.getD,List.getElem?_eq_none (Nat.le_of_not_lt ht)]
        rw[this];trivial
    · simp;omega
    · obtain⟨hd,e1,e2,e3⟩:=hH.blk b x hx
      exact⟨hd,e1,e2,λhe=>⟨(e3 he).1,(e3 he).2,.inl ⟨b,x,hd,hx,e1,he,rfl⟩⟩⟩
    · show hpOf (h.map some) b=none
      have hb':h.length≤b:=hb
      simp[hpOf,List.getElem?_eq_none,hb']
  refine wp_mono (hw _ rfl c _ w H0) ?_
  have fin:∀(s:S3) (a':Act) (w':World),(∃s',Weak h.length fn.ntmps s s'∧(∃xs,resL s' rs=some xs∧Sub (pack xs) r)∧∀b x,hpOf h' b=some x→s'.hp b=some x)→Rel P h.length c fn.ntmps s a' w' →
      a'.defers=[]∧∃v,(results fn a'.tmps).run P w'=.ok v w'∧(λe w'=>∃v A' μ',e=Ending.returned v∧RV w' A' r μ' v∧HeapOk P w' A' μ' (hpOf h')∧MuLe μ μ'∧Ext (ownOf μ (hpOf (h.map some))) w w' ∧
        (∀b,A b→A' b)∧(∀b,A' b→A b∨ownOf μ (hpOf (h.map some)) b∨w.heap.size≤b)∧(∀b,ownOf μ' (hpOf h') b→ownOf μ (hpOf (h.map some)) b∨w.heap.size≤b)) (.returned v) w':=by
    rintro s a' w' ⟨s',hwk,⟨xs,hxs,hpk⟩,hsub⟩ hr
    obtain⟨h0,A',μ',H⟩:=hwk P c a' w' hr
    obtain⟨v,e1,e2⟩:=results_run H hrs hxs
    have e2:=hpk _ _ _ _ e2
    refine⟨H.df,v,e1,v,A',μ',rfl,e2,?_,H.mu,?_,H.A0,H.A1,?_⟩
    · refine⟨λb x hx=>?_,λb b' x x' hd hd' hx hx'=>H.inj b b' x x' hd hd' (hsub b x hx) (hsub b' x' hx'),H.lt⟩
      obtain⟨hd,g1,g2,g3⟩:=H.blk b x (hsub b x hx)
      exact⟨hd,g1,g2,λhe=>⟨(g3 he).1,(g3 he).2.1⟩⟩
    · exact⟨H.keep.os,H.keep.tape,H.keep.output,H.keep.size,H.keep.block⟩
    · rintro b ⟨b',x,hd,hx,hm,he,rfl⟩
      obtain⟨hd',g1,g2,g3⟩:=H.blk b' x (hsub b' x hx)
      rw[hm]at g1;cases g1
      exact(g3 he).2.2
  intro e a' w' hq
  cases e with
  | normal=>obtain⟨s,h1,h2⟩:=hq;exact fin s a' w' h1 h2
  | ret=>obtain⟨s,h1,h2⟩:=hq;exact fin s a' w' h1 h2
  | exit id=>obtain⟨s,h1,h2⟩:=hq;exact h1.elim
  | _=>exact hq.elim
section
variable {P : Program} {Sf : Nat → Type} {T : Type}
def endP(res:List AR)(sh:Sh)(enc:T→AV)(r0:T):KX P Sf T
 | .exit _,_,_=>False
 | _,a,s=>preL 0 a s λa s=>match a with
  | .ret r=>match resL s res with
   | some xs=>fitA sh (pack xs)=enc r∧r=r0
   | none=>False
  | _=>False
def endH(k:Nat)(res:List AR)(sh:Sh)(enc:T→AV)(hB:T→List (Option Blk))(r0:T):KX P Sf T
 | .exit _,_,_=>False
 | _,a,s=>preL k a s λa s=>match a with
  | .retH r m bs=>nfP k s m bs (match resL m.st res with
   | some xs=>fitA sh (pack xs)=enc r∧(m.hs.map PB.blk).take (hB r).length=hB r∧r=r0
   | none=>False)
  | _=>False
def codeOf(P:Program)(f:FuncId):Option AF:=(P.funcs[f]?).bind (cFunc P)
def mxP(P:Program)(f:FuncId)(args:List AV)(sh:Sh)(enc:T→AV)(a:An P Sf T)(r0:T):Prop:=
 match codeOf P f with
 | some af=>cond (Nat.ble args.length af.n) (wpA 0 af.body a ⟨initT args 0,λ_=>none,0⟩ (endP af.res sh enc r0)) False
 | none=>False
def mxH(P:Program)(f:FuncId)(args:List AV)(h:List Blk)(sh:Sh)(enc:T→AV)(hB:T→List (Option Blk))(a:An P Sf T)(r0:T):Prop:=
 match codeOf P f with
 | some af=>cond (Nat.ble args.length af.n) (wpA h.length af.body a ⟨initT args 0,initH h 0,h.length⟩ (endH h.length af.res sh enc hB r0)) False
 | none=>False
theorem codeOf_some{f:FuncId}{af:AF}(h:codeOf P f=some af):∃fn,P.funcs[f]?=some fn∧cFunc P fn=some af:=Option.bind_eq_some_iff.mp h
theorem mxP_ok{f:FuncId}{args:List AV}{sh:Sh}{enc:T→AV}{a:An P Sf T}{r0:T}(h:mxP P f args sh enc a r0)(hp:(enc r0).pure):PSpec P f args (enc r0):=by
 unfold mxP at h
 split at h
 ·rename_i af e
  obtain⟨fn,e1,e2⟩:=codeOf_some e
  obtain⟨h1,h⟩:=cond_p h
  refine HSpec.pure (HSpec.introS e1 e2 (Nat.le_of_ble_eq_true h1) (h:=[]) (h':=[]) ?_) hp
  rw[init_eq]
  refine wpA_ok h λe a' s' hk=>?_
  have fin:∀{a:An P Sf T} {s:S3},(preL 0 a s λa s=>match a with
    | .ret r=>match resL s af.res with
     | some xs=>fitA sh (pack xs)=enc r∧r=r0
     | none=>False
    | _=>False)→∃s',Weak 0 af.n s s'∧(∃xs,resL s' af.res=some xs∧Sub (pack xs) (enc r0))∧∀b x,hpOf [] b=some x→s'.hp b=some x:=by
   intro a s h
   obtain⟨a2,s2,g1,g2⟩:=preL_ok (n:=af.n) h
   split at g2
   ·split at g2
    ·rename_i xs ex
     obtain⟨g3,rfl⟩:=g2
     exact⟨s2,g1,⟨xs,ex,g3 ▸ fitA_sub _ _⟩,λb x hx=>by simp[hpOf]at hx⟩
    ·exact g2.elim
   ·exact g2.elim
  cases e with
  | normal=>exact fin hk
  | exit id=>exact hk.elim
  | ret=>exact fin hk
 ·exact h.elim
theorem mxH_ok{f:FuncId}{args:List AV}{hs:List Blk}{sh:Sh}{enc:T→AV}{hB:T→List (Option Blk)}{a:An P Sf T}{r0:T}(h:mxH P f args hs sh enc hB a r0):HSpec P f args hs (enc r0) (hB r0):=by
 unfold mxH at h
 split at h
 ·rename_i af e
  obtain⟨fn,e1,e2⟩:=codeOf_some e
  obtain⟨h1,h⟩:=cond_p h
  refine HSpec.introS e1 e2 (Nat.le_of_ble_eq_true h1) ?_
  rw[init_eq]
  refine wpA_ok h λe a' s' hk=>?_
  have fin:∀{a:An P Sf T} {s:S3},(preL hs.length a s λa s=>match a with
    | .retH r m bs=>nfP hs.length s m bs (match resL m.st af.res with
     | some xs=>fitA sh (pack xs)=enc r∧(m.hs.map PB.blk).take (hB r).length=hB r∧r=r0
     | none=>False)
    | _=>False)→∃s',Weak hs.length af.n s s'∧(∃xs,resL s' af.res=some xs∧Sub (pack xs) (enc r0))∧∀b x,hpOf (hB r0) b=some x→s'.hp b=some x:=by
   intro a s h
   obtain⟨a2,s2,g1,g2⟩:=preL_ok (n:=af.n) h
   split at g2
   ·rename_i r m bs
    obtain⟨g3,g2⟩:=nfP_ok (n:=af.n) g2
    split at g2
    ·rename_i xs ex
     obtain⟨g4,g5,rfl⟩:=g2
     refine⟨m.st,g1.trans g3,⟨xs,ex,g4 ▸ fitA_sub _ _⟩,λb x hx=>?_⟩
     rw[show m.st.hp=hpOf (m.hs.map PB.blk)from(hpOf_hpL _).symm]
     have hx:=hpOf_opt.mp hx
     rw[←g5]at hx
     refine hpOf_opt.mpr ?_
     rw[List.getElem?_take]at hx
     split at hx
     ·exact hx
     ·cases hx
    ·exact g2.elim
   ·exact g2.elim
  cases e with
  | normal=>exact fin hk
  | exit id=>exact hk.elim
  | ret=>exact fin hk
 ·exact h.elim
end
def ck(b:Bool)(R:Prop):Prop:=cond b R False
def br(b:Bool)(X Y:Prop):Prop:=cond b X Y
def Cl{P:Program}(c:PC P)(R:Prop):Prop:=c.args=c.args∧R
def Ch{P:Program}(c:HC P)(bs:List Nat)(f:Nat)(R:Prop):Prop:=renL (piOf bs f) c.args=renL (piOf bs f) c.args∧(c.h.map λx=>some (renBk (piOf bs f) x))=(c.h.map λx=>some (renBk (piOf bs f) x))∧R
def Rf{α:Type}(x:α)(R:Prop):Prop:=x=x∧R
def Bk{σ:Type}(n:σ→NF)(bs:List Nat)(I:σ→Prop)(m:σ→Nat)(x t:σ):Prop:=Nf (n x) bs (I x∧m x<m t)
def Be{σ:Type}(n:σ→NF)(bs:List Nat)(I:σ→Prop)(x:σ):Prop:=Nf (n x) bs (I x)
def Bj{σ:Type}(n:σ→NF)(bs:List Nat)(x:σ):Prop:=Nf (n x) bs (x=x)
def Rp{T:Type}(e:T→AV)(r r0:T):Prop:=Rf (e r) (r=r0)
def Qt{T:Type}(m:NF)(bs:List Nat)(e:T→AV)(b:T→List (Option Blk))(r r0:T):Prop:=Nf m bs (Rf (e r) (Rf (b r) (r=r0)))
def B(l:List UInt8):ByteArray:=⟨l.toArray⟩
def MN.say:MN→Prop→Prop
 | .get _ kf _ vf l x z,R=>(l.map λp=>kf p.1)=(l.map λp=>kf p.1)∧(l.map λp=>vf p.2)=(l.map λp=>vf p.2)∧kf x=kf x∧vf z=vf z∧R
 | .put _ kf _ vf l x v,R=>(l.map λp=>kf p.1)=(l.map λp=>kf p.1)∧(l.map λp=>vf p.2)=(l.map λp=>vf p.2)∧kf x=kf x∧vf v=vf v∧R
 | .del _ kf _ vf l x,R=>(l.map λp=>kf p.1)=(l.map λp=>kf p.1)∧(l.map λp=>vf p.2)=(l.map λp=>vf p.2)∧kf x=kf x∧R
 | .getB _ _ kf _ vf l x _,R=>(l.map λp=>kf p.1)=(l.map λp=>kf p.1)∧(l.map λp=>vf p.2)=(l.map λp=>vf p.2)∧kf x=kf x∧R
theorem MN.say_iff{q:MN}{R:Prop}:q.say R↔R:=by cases q<;>simp[MN.say]
def mnGetI{β:Type}(vf:β→AV)(l:List (Int×β))(x:Int)(z:β):MN:=.get inferInstance MK.n (λ_ _ h=>MK.n.inj h) vf l x z
def mnPutI{β:Type}(vf:β→AV)(l:List (Int×β))(x:Int)(v:β):MN:=.put inferInstance MK.n (λ_ _ h=>MK.n.inj h) vf l x v
def mnDelI{β:Type}(vf:β→AV)(l:List (Int×β))(x:Int):MN:=.del inferInstance MK.n (λ_ _ h=>MK.n.inj h) vf l x
def mnGetB(h:Bool){β:Type}(vf:β→AV)(l:List (Int×β))(x:Int)(z:β):MN:=.getB h inferInstance MK.n (λ_ _ h=>MK.n.inj h) vf l x z
theorem ck_iff{b:Bool}{R:Prop}:ck b R↔b=true∧R:=by cases b<;>simp[ck]
theorem br_iff{b:Bool}{X Y:Prop}:br b X Y↔(b=true→X)∧(b=false→Y):=by cases b<;>simp[br]
theorem Cl_iff{P:Program}{c:PC P}{R:Prop}:Cl c R↔R:=⟨λh=>h.2,λh=>⟨rfl,h⟩⟩
theorem Ch_iff{P:Program}{c:HC P}{bs:List Nat}{f:Nat}{R:Prop}:Ch c bs f R↔R:=⟨λh=>h.2.2,λh=>⟨rfl,rfl,h⟩⟩
theorem Rf_iff{α:Type}{x:α}{R:Prop}:Rf x R↔R:=⟨λh=>h.2,λh=>⟨rfl,h⟩⟩
theorem Bk_iff{σ:Type}{n:σ→NF}{bs:List Nat}{I:σ→Prop}{m:σ→Nat}{x t:σ}:Bk n bs I m x t↔I x∧m x<m t:=Nf_iff
theorem Be_iff{σ:Type}{n:σ→NF}{bs:List Nat}{I:σ→Prop}{x:σ}:Be n bs I x↔I x:=Nf_iff
theorem Bj_iff{σ:Type}{n:σ→NF}{bs:List Nat}{x:σ}:Bj n bs x↔True:=⟨λ_=>trivial,λ_=>Nf_iff.mpr rfl⟩
theorem Rp_iff{T:Type}{e:T→AV}{r r0:T}:Rp e r r0↔r=r0:=Rf_iff
theorem Qt_iff{T:Type}{m:NF}{bs:List Nat}{e:T→AV}{b:T→List (Option Blk)}{r r0:T}:Qt m bs e b r r0↔r=r0:=Nf_iff.trans (Rf_iff.trans Rf_iff)
def Idt(l:List AV)(R:Prop):Prop:=l=(l.map λy=>y)∧R
theorem map_idA(l:List AV):l.map (λy=>y)=l:=List.map_id'' (λ_=>rfl) l
theorem Idt_iff{l:List AV}{R:Prop}:Idt l R↔R:=⟨λh=>h.2,λh=>⟨(map_idA l).symm,h⟩⟩
theorem mxP_of{P:Program}{Sf:Nat→Type}{T:Type}{f:FuncId}{args:List AV}{sh:Sh}{enc:T→AV}{a:An P Sf T}{r0:T}{V:Prop}(h:V)(e:mxP P f args sh enc a r0=V)(hp:(enc r0).pure):PSpec P f args (enc r0):=by
 subst e;exact mxP_ok h hp
theorem mxH_of{P:Program}{Sf:Nat→Type}{T:Type}{f:FuncId}{args:List AV}{hs:List Blk}{sh:Sh}{enc:T→AV}{hB:T→List (Option Blk)}{a:An P Sf T}{r0:T}{V:Prop}(h:V)(e:mxH P f args hs sh enc hB a r0=V):HSpec P f args hs (enc r0) (hB r0):=by
 subst e;exact mxH_ok h
attribute [irreducible] mxP mxH
abbrev W:=IntKind.i64.wrap
theorem W_eq{n:Int}(h:-9223372036854775808≤n∧n≤9223372036854775807):W n=n:=wrap64 h
theorem ifb{p q:Prop}[Decidable p]:(decide p=true→q)↔(p→q):=by simp
theorem ifn{p q:Prop}[Decidable p]:(decide p=false→q)↔(¬p→q):=by simp
def fnB (P : Program) (f : FuncId) : Bool := match P.funcs[f]? with
  | some fn => fn.body.isSome && !(fn.name == "runtime.NumGoroutine")
  | none => false
theorem fnB_ok{P:Program}{f:FuncId}(h:fnB P f=true):FnOk P f:=by
 unfold fnB at h
 split at h
 ·rename_i fn e
  simp only[Bool.and_eq_true,Bool.not_eq_true']at h
  exact⟨fn,e,h.1,h.2⟩
 ·cases h
theorem maxLen_eq:maxLen=9223372036854775807:=rfl
theorem inK64'(n:Int):inK .i64 n↔-9223372036854775808≤n∧n≤9223372036854775807:=Iff.rfl
theorem take_succ{α:Type}{l:List α}{i:Nat}{x:α}(h:l[i]?=some x):l.take (i+1)=l.take i++[x]:=by rw[List.take_add_one,h];rfl
theorem lt_of_get{α:Type}{l:List α}{i:Nat}{x:α}(h:l[i]?=some x):i<l.length:=(List.getElem?_eq_some_iff.mp h).1
theorem mem_of_get{α:Type}{l:List α}{i:Nat}{x:α}(h:l[i]?=some x):x∈l:=List.mem_of_getElem? h
set_option linter.defProp false
def okU:=And.intro @okL.eq_1 (And.intro @okL.eq_2 (And.intro @AV.ok.eq_1 (And.intro @AV.ok.eq_2 (And.intro @AV.ok.eq_3 (And.intro @AV.ok.eq_4 (And.intro @AV.ok.eq_5 (And.intro @AV.ok.eq_6 (And.intro @inK64' (And.intro @and_true (And.intro @true_and maxLen_eq))))))))))
def FrzA{α:Type}(v:α→AV)(l:List α)(x:α)(le:List AV)(y:AV):Prop:=((le++[y]).map λy=>y)=((l++[x]).map v).set l.length y
def snocS{α:Type}(l:List α)(x:α):List α:=(l++[x]).set l.length x
theorem snocS_eq{α:Type}(l:List α)(x:α):snocS l x=l++[x]:=by
 unfold snocS;rw[List.set_append_right _ _ (Nat.le_refl _)];simp
theorem frzA_ok{α:Type}{v:α→AV}{l:List α}{x:α}{y:AV}:FrzA v l x (l.map v) y:=by
 unfold FrzA;rw[map_idA,List.map_append,List.set_append_right _ _ (by simp)];simp
theorem frzA_iff{α:Type}{v:α→AV}{l:List α}{x:α}{y:AV}:FrzA v l x (l.map v) y↔True:=⟨λ_=>trivial,λ_=>frzA_ok⟩
theorem frzA_nil{α:Type}{v:α→AV}{x:α}{y:AV}:FrzA v [] x [] y↔True:=⟨λ_=>trivial,λ_=>rfl⟩
def B8(l:List Int):ByteArray:=⟨(l.map λx=>UInt8.ofNat x.toNat).toArray⟩
theorem bytesA_u8:∀l:List Int,bytesA (l.map λx=>AV.val (.int .u8 x))=some (l.map λx=>UInt8.ofNat x.toNat)
 | []=>rfl
 | x::l=>by
  show(bytesA (l.map λx=>AV.val (.int .u8 x))).map (UInt8.ofNat x.toNat::·)=_
  rw[bytesA_u8 l];rfl
theorem sbB_iff{l:List Int}:SbB (l.map λx=>AV.val (.int .u8 x)) (AV.str (B8 l))↔True:=⟨λ_=>trivial,λ_=>⟨_,bytesA_u8 l,rfl⟩⟩
def vcU:=And.intro @MN.say_iff <| And.intro @br_iff (And.intro @ck_iff (And.intro @Cl_iff (And.intro @Ch_iff (And.intro @Nf_iff (And.intro @Bk_iff (And.intro @Be_iff (And.intro @Bj_iff (And.intro @Rp_iff (And.intro @Qt_iff (And.intro @ifb (And.intro @ifn (And.intro @decide_eq_true_eq (And.intro @decide_eq_false_iff_not (And.intro @Bool.and_eq_true @Bool.or_eq_true))))))))))))))
def rfU:=And.intro @Rf_iff (And.intro @Idt_iff (And.intro @frzA_iff (And.intro @frzA_nil (And.intro @snocS_eq @sbB_iff))))
end Go.Am
namespace Go.Am
inductive Ax (P:Program) (Sf:Nat→Type) (T:Type):Type 1 where
  | say (φ:Prop→Prop) (a:Ax P Sf T)
  | nil
  | pass (a:Ax P Sf T)
  | br (g:Nat) (c:Bool) (x y:Ax P Sf T)
  | el (f:Nat) {α:Type} (v:α→AV) (l:List α) (Q:(α→Prop)→Prop) (k:α→Ax P Sf T)
  | elA (f:Nat) {α:Type} (v:α→List AV) (l:List α) (i n:Nat) (hv:∀x,(v x).length=n) (Q:(α→Prop)→Prop) (k:α→Ax P Sf T)
  | st (f:Nat) {α:Type} (v:α→AV) (l:List α) (g:α→α) (Q:(α→Prop)→Prop) (k:α→Ax P Sf T)
  | stI (f:Nat) {α:Type} (v:α→AV) (l:List α) (Q:(α→Prop)→Prop) (k:α→Ax P Sf T)
  | app (f:Nat) {α:Type} (v:α→AV) (l xs:List α) (a:Ax P Sf T)
  | appF (f:Nat) {α:Type} (v:α→AV) (l xs:List α) (a:Ax P Sf T)
  | sub (f:Nat) {α:Type} (v:α→AV) (l:List α) (fl:Bool) (a:Ax P Sf T)
  | rep (f:Nat) {α:Type} (v:α→AV) (x:α) (a:Ax P Sf T)
  | own (f:Nat) (a:Ax P Sf T)
  | mn (f:Nat) (q:MN) (a:Ax P Sf T)
  | req (f:Nat) (p:Prop) (k:p→Ax P Sf T)
  | callP (c:PC P) (a:Ax P Sf T)
  | callH (bs:List Nat) (c:HC P) (f:Nat) (a:Ax P Sf T)
  | callA (c:PC P) (h:pureL c.args) (a:Ax P Sf T)
  | cmd (c:Cmd) (a:Ax P Sf T)
  | cmdL (c:Cmd) (a:Ax P Sf T)
  | wait (a:Ax P Sf T)
  | loop (j:Nat) (nf:Sf j→NF) (I:Sf j→Prop) (mu:Sf j→Nat) (s0:Sf j) (bs:List Nat) (body:Sf j→(Sf j→List Nat→Prop)→Ax P Sf T)
  | join (j:Nat) (nf:Sf j→NF) (I:Sf j→Prop) (a:(Sf j→List Nat→Prop)→Ax P Sf T) (body:Sf j→Ax P Sf T)
  | join2 (j:Nat) (nf:Sf j→NF) (I:Sf j→Prop) (a:(Sf j→List Nat→Prop)→Ax P Sf T) (body:Sf j→Ax P Sf T)
  | bk (j:Nat) (b:Sf j→List Nat→Prop) (t:Sf j) (bs:List Nat)
  | hand (k0:Nat) (cs:List Cmd) (m1:NF) (bs:List Nat) (s2:S3) (c:AC) (h:∀n,HandOk P k0 n c m1.st s2) (a:Ax P Sf T)
  | hand2 (k0:Nat) (s1 s2:S3) (c:AC) (h:∀n,HandOk P k0 n c s1 s2) (a:Ax P Sf T)
  | handQ (k0:Nat) (m1:NF) (bs:List Nat) (s2:S3) (c:AC) (p:Prop) (h:p→∀n,HandOk P k0 n c m1.st s2) (a:Ax P Sf T)
  | allB (c:Bool→Prop) (k:Bool→Ax P Sf T)
  | elX (f:Nat) {α:Type} (v:α→AV) (l:List α) (i:Nat) (k:α→Ax P Sf T)
  | elI (f:Nat) {α:Type} (v:α→AV) (l:List α) (i:Int) (k:α→Ax P Sf T)
  | elJ (f:Nat) {α:Type} (v:α→AV) (l:List α) (i:Int) (k:α→Ax P Sf T)
  | stX (f:Nat) {α:Type} (v:α→AV) (l:List α) (i:Nat) (g:α→α) (k:α→Ax P Sf T)
  | stJ (f:Nat) {α:Type} (v:α→AV) (l:List α) (i:Int) (g:α→α) (k:α→Ax P Sf T)
  | fz (b:Nat) {α:Type} (v:α→AV) (l:List α) (h:∀x,(v x).pureB=true) (a:Ax P Sf T)
  | apX (f:Nat) {α:Type} (v:α→AV) (l xs:List α) (n:Nat) (a:Ax P Sf T)
  | ap0 (f:Nat) {α:Type} (v:α→AV) (l xs:List α) (a:Ax P Sf T)
  | unr (n:Nat) (a:Ax P Sf T)
  | ret (r:T)
  | retH (r:T) (m:NF) (bs:List Nat)
section
variable {P : Program} {Sf : Nat → Type} {T : Type}
def Ax.an:Ax P Sf T→An P Sf T
 | .say _ a=>a.an
 | .nil=>.nil
 | .pass a=>.pass a.an
 | .br g _ x y=>.br g x.an y.an
 | .el f v l _ k=>.el f v l λx=>(k x).an
 | .elA f v l i n hv _ k=>.elA f v l i n hv λx=>(k x).an
 | .st f v l g _ k=>.st f v l g λx=>(k x).an
 | .stI f v l _ k=>.stI f v l λx=>(k x).an
 | .app f v l xs a=>.app f v l xs a.an
 | .appF f v l xs a=>.appF f v l xs a.an
 | .sub f v l fl a=>.sub f v l fl a.an
 | .rep f v x a=>.rep f v x a.an
 | .own f a=>.own f a.an
 | .mn f q a=>.mn f q a.an
 | .req f p k=>.req f p λh=>(k h).an
 | .callP c a=>.callP c a.an
 | .callH bs c _ a=>.callH bs c a.an
 | .callA c h a=>.callA c h a.an
 | .cmd c a=>.cmd c a.an
 | .cmdL c a=>.cmdL c a.an
 | .wait a=>.wait a.an
 | .loop j nf I mu s0 bs body=>.loop j nf I mu s0 bs λt=>(body t λ_ _=>True).an
 | .join j nf I a body=>.join j nf I (a λ_ _=>True).an λt=>(body t).an
 | .join2 j nf I a body=>.join2 j nf I (a λ_ _=>True).an λt=>(body t).an
 | .bk j _ t bs=>.back j t bs
 | .hand k0 cs m1 bs s2 c h a=>.hand k0 cs m1 bs s2 c h a.an
 | .hand2 k0 s1 s2 c h a=>.hand2 k0 s1 s2 c h a.an
 | .handQ k0 m1 bs s2 c p h a=>.handQ k0 m1 bs s2 c p h a.an
 | .allB _ k=>(k true).an
 | .elX f v l _ k=>.el f v l λx=>(k x).an
 | .elI f v l _ k=>.el f v l λx=>(k x).an
 | .elJ f v l _ k=>.el f v l λx=>(k x).an
 | .stX f v l _ g k=>.st f v l g λx=>(k x).an
 | .stJ f v l _ g k=>.st f v l g λx=>(k x).an
 | .fz b v l h a=>.cmdL (.frzE b (l.map v) (pureBL_map h l)) a.an
 | .apX f v l xs _ a=>.app f v l xs a.an
 | .ap0 f v l xs a=>.app f v l xs a.an
 | .unr n a=>.unr n a.an
 | .ret r=>.ret r
 | .retH r m bs=>.retH r m bs
def Ax.vc(e:T→AV)(b:T→List (Option Blk))(r0:T):Ax P Sf T→Prop
 | .say φ a=>φ (a.vc e b r0)
 | .nil=>True
 | .pass a=>a.vc e b r0
 | .br _ c x y=>Go.Am.br c (x.vc e b r0) (y.vc e b r0)
 | .el _ _ _ Q k=>Q λx=>(k x).vc e b r0
 | .elA _ _ _ _ _ _ Q k=>Q λx=>(k x).vc e b r0
 | .st _ _ _ _ Q k=>Q λx=>(k x).vc e b r0
 | .stI _ _ _ Q k=>Q λx=>(k x).vc e b r0
 | .app _ _ _ _ a=>a.vc e b r0
 | .appF _ _ _ _ a=>a.vc e b r0
 | .sub _ _ _ _ a=>a.vc e b r0
 | .rep _ _ _ a=>a.vc e b r0
 | .own _ a=>a.vc e b r0
 | .mn _ q a=>q.say (a.vc e b r0)
 | .req _ p k=>∃h:p,(k h).vc e b r0
 | .callP c a=>Cl c (a.vc e b r0)
 | .callH bs c f a=>Ch c bs f (a.vc e b r0)
 | .callA c _ a=>Cl c (a.vc e b r0)
 | .cmd _ a=>a.vc e b r0
 | .cmdL _ a=>a.vc e b r0
 | .wait a=>a.vc e b r0
 | .loop _ nf I mu s0 bs body=>Be nf bs I s0∧∀t,I t→(body t λx bs=>Bk nf bs I mu x t).vc e b r0
 | .join _ nf I a body=>(a λx bs=>Be nf bs I x).vc e b r0∧∀t,I t→(body t).vc e b r0
 | .join2 _ nf I a body=>(a λx bs=>Be nf bs I x).vc e b r0∧∀t,I t→(body t).vc e b r0
 | .bk _ b t bs=>b t bs
 | .hand _ _ m1 bs _ c _ a=>Nf m1 bs (Rf c (a.vc e b r0))
 | .hand2 _ s1 _ c _ a=>Rf s1 (Rf c (a.vc e b r0))
 | .handQ _ m1 bs _ c p _ a=>Nf m1 bs (Rf c (p∧a.vc e b r0))
 | .allB c k=>∀x,c x→(k x).vc e b r0
 | .elX _ v l i k=>Rf (l.map v) (ck (decide (i<l.length)) (∀x,l[i]?=some x→(k x).vc e b r0))
 | .elI _ v l i k=>Rf (l.map v) (ck (decide (0≤i)) (ck (decide (i<(l.length:Int))) (∀x,l[i.toNat]?=some x→(k x).vc e b r0)))
 | .elJ _ v l i k=>ck (cond (decide (0≤i)) (decide (i<((l.map v).length:Int))) false) (Rf (l.map v) (ck (decide (i.toNat<l.length)) (∀x,l[i.toNat]?=some x→(k x).vc e b r0)))
 | .stX _ v l i g k=>Rf (l.map v) (ck (decide (i<l.length)) (∀o,l[i]?=some o→Rf (v (g o)) ((k o).vc e b r0)))
 | .stJ _ v l i g k=>ck (cond (decide (0≤i)) (decide (i<((l.map v).length:Int))) false) (Rf (l.map v) (ck (decide (i.toNat<l.length)) (∀o,l[i.toNat]?=some o→Rf (v (g o)) ((k o).vc e b r0))))
 | .fz _ v l _ a=>Rf (l.map v) (a.vc e b r0)
 | .apX _ v l xs n a=>Rf (l.map v) (Rf (xs.map v) (ck (decide (n≤1048576)) (a.vc e b r0)))
 | .ap0 _ v l xs a=>Rf (l.map v) (Rf (xs.map v) (a.vc e b r0))
 | .unr _ a=>a.vc e b r0
 | .ret r=>Rp e r r0
 | .retH r m bs=>Qt m bs e b r r0
def Ax.vp(e:T→AV)(r0:T)(x:Ax P Sf T):Prop:=x.vc e (λ_=>[]) r0
end
@[reducible] def noS:Nat→Type:=λ_=>Unit
end Go.Am
namespace Go.Proofs.YtdoacjojljgdcaaGreat
open Go Go.Am
structure Tap where
  L:List Int
  p:Nat
structure TapI where
  L:List Int
  p:Int
def Tap.v(x:Tap):AV:=.agg [.sl 1 (x.L.map AV.int) false,.int x.p]
def Mod(x n:Int):Int:=if n<1 then 0 else if x.tmod n<0 then x.tmod n+n else x.tmod n
theorem Mod_range{x n:Int}(h:1≤n):0≤Mod x n∧Mod x n<n:=by
 have hb:=Int.tmod_lt_of_pos x (show 0<n by omega)
 have hb':=Int.lt_tmod_of_pos x (show 0<n by omega)
 unfold Mod;split
 ·omega
 split<;>omega
def rawP(L:List Int)(p:Nat):Nat:=if L.length≤p then p else p+1
def rawV(L:List Int)(p:Nat):Int:=L.getD p 0
def rng(L:List Int)(p:Nat)(lo hi:Int):Int:=W (lo+Mod (rawV L p) (W (W (hi-lo)+1)))
def pickI(l:List Int)(r:Int):Int:=l.getD (Mod r l.length).toNat 0
def orI(l:List Int):Int:=(l.find? (· != 0)).getD 0
def cmpI(x y:Int):Int:=if x<y then -1 else if y<x then 1 else 0
def isNaN(x:Int):Bool:=false
theorem W_succ{k n:Nat}(h:k<n)(hn:n≤9223372036854775807):W ((k:Int)+1)=((k+1:Nat):Int):=by rw[W_eq (by omega)];omega
theorem W_pred{k:Nat}(h:k≤9223372036854775807)(h1:1≤k):W ((k:Int)-1)=((k-1:Nat):Int):=by rw[W_eq (by omega)];omega
def isNaN_a(x:Int):Prop:=okL [.int x]
def isNaN_e(r:Bool):AV:=.bool r
def isNaN_x(x:Int):Ax Tryz.prog noS (Bool):=
 (.ret (x != x))
def isNaN_vc(x:Int)(r0:Bool):Prop:=(isNaN_x x).vp isNaN_e r0
theorem isNaN_p(x:Int)(ok:isNaN_a x):isNaN_vc x (isNaN x):=by
 dsimp only[isNaN_vc,isNaN_x,noS,Ax.vp,Ax.vc];simp only[vcU,rfU,List.length_map]
 simp[isNaN]
def isNaN_c(x:Int):PC Tryz.prog:=⟨172,[.k],[.int x],isNaN_e (isNaN x),PSpec.of_ok λok=>mxP_of (sh:=.k) (enc:=isNaN_e) (a:=(isNaN_x x).an) (isNaN_p x ok) (by kernel_rfl) (AV.pureB_ok rfl),fnB_ok (by kernel_rfl)⟩
def cmpI_a(x:Int)(y:Int):Prop:=okL [.int x,.int y]
def cmpI_e(r:Int):AV:=.int r
def cmpI_x(x:Int)(y:Int):Ax Tryz.prog noS (Int):=
 (.callP (isNaN_c x)
(.callP (isNaN_c y)
(.br 128 (isNaN x) (.br 144 (isNaN y) (.ret (0))
(.ret (-1)))
(.br 144 (isNaN y) (.ret (1))
(.br 192 (decide (x<y)) (.ret (-1))
(.br 240 (decide (y<x)) (.ret (1))
(.ret (0))))))))
def cmpI_vc(x:Int)(y:Int)(r0:Int):Prop:=(cmpI_x x y).vp cmpI_e r0
theorem cmpI_p(x y:Int)(ok:cmpI_a x y):cmpI_vc x y (cmpI x y):=by
 dsimp only[cmpI_vc,cmpI_x,noS,Ax.vp,Ax.vc];simp only[vcU,rfU,List.length_map]
 simp only[isNaN,Bool.false_eq_true,false_implies,true_implies,true_and,cmpI]
 refine⟨λh=>by rw[if_pos h],λh=>⟨λh2=>by rw[if_neg h,if_pos h2],λh2=>by rw[if_neg h,if_neg h2]⟩⟩
def cmpI_c(x:Int)(y:Int):PC Tryz.prog:=⟨151,[.k,.k],[.int x,.int y],cmpI_e (cmpI x y),PSpec.of_ok λok=>mxP_of (sh:=.k) (enc:=cmpI_e) (a:=(cmpI_x x y).an) (cmpI_p x y ok) (by kernel_rfl) (AV.pureB_ok rfl),fnB_ok (by kernel_rfl)⟩
theorem find_take{l:List Int}{k:Nat}{x:Int}(h:l.take k |>.all (·==0))(hx:l[k]?=some x)(hn:x≠0):l.find? (· != 0)=some x:=by
 rw[List.find?_eq_some_iff_getElem]
 refine⟨by simpa using hn,k,lt_of_get hx,by rw[List.getElem?_eq_getElem (lt_of_get hx)]at hx;exact Option.some.inj hx,λj hj=>?_⟩
 have:=List.all_eq_true.mp h (l[j]'(by have:=lt_of_get hx;omega)) (List.mem_take_iff_getElem.mpr ⟨j,by have:=lt_of_get hx;omega,rfl⟩)
 simpa using this
def insAt{α:Type}(es:List α)(i:Nat)(x:α):List α:=es.take i++[x]++es.drop i
def putP(l:List Int)(x:Int):Nat:=l.findIdx (λy=>!decide (y<x))
def put(l:List Int)(x:Int):List Int:=if l[putP l x]?=some x then l else insAt l (putP l x) x
structure Rtr where
  id:Int
  cap:Bool
  deriving DecidableEq
structure Lnk where
  a:Int
  b:Int
  ca:Int
  cb:Int
  w:Int
  deriving DecidableEq
structure Tpl where
  rs:List Rtr
  ls:List Lnk
  deriving DecidableEq
theorem insAt_eqG{α:Type}{l:List α}{k:Nat}{x:α}:((l.take k).drop 0)++([x]++((l.take ((l.length:Int).toNat)).drop k))=insAt l k x:=by
 rw[Int.toNat_natCast,List.take_length,List.drop_zero,insAt,List.append_assoc]
def Rtr.v(x:Rtr):AV:=.agg [.int x.id,.bool x.cap]
def Lnk.v(x:Lnk):AV:=.agg [.int x.a,.int x.b,.int x.ca,.int x.cb,.int x.w]
def Tpl.v(x:Tpl):AV:=.agg [.sl 2 (x.rs.map Rtr.v) false,.sl 5 (x.ls.map Lnk.v) false]
def G(rows:List (List Bool))(h:Hp):Hp:=λb=>if 1000≤b∧b<2000 then(rows[b-1000]?).map (λr=>Blk.vec 1 (r.map AV.bool))else h b
def F(i:Nat):Nat:=1000+i
def names(n:Nat):List AV:=(List.range n).map λi=>.vec (F i)
def mset(M:List (List Bool))(x y:Nat):List (List Bool):=M.set x ((M.getD x []).set y true)
def Sq(n:Nat)(M:List (List Bool)):Prop:=M.length=n∧∀r∈M,r.length=n
theorem Sq.get{n:Nat}{M:List (List Bool)}(h:Sq n M){x:Nat}(hx:x<n):∃r,M[x]?=some r∧r.length=n∧M.getD x []=r:=by
 have hx:x<M.length:=by rw[h.1];exact hx
 exact⟨M[x],List.getElem?_eq_getElem hx,h.2 _ (List.getElem_mem hx),by simp[List.getD,List.getElem?_eq_getElem hx]⟩
theorem Sq.set{n:Nat}{M:List (List Bool)}(h:Sq n M)(x y:Nat):Sq n (mset M x y):=by
 refine⟨by simp[mset,h.1],λr hr=>?_⟩
 by_cases hx:x<n
 ·obtain⟨r0,g1,g2,g3⟩:=h.get hx
  rcases List.mem_or_eq_of_mem_set hr with hr|rfl
  ·exact h.2 r hr
  ·rw[g3];simpa using g2
 ·have:mset M x y=M:=List.set_eq_of_length_le (by rw[h.1];omega)
  rw[this]at hr;exact h.2 r hr
section
variable {α : Type} {l : List α} {P : α → Prop} {R : α → α → Prop} {t : Int} {x y : α}
theorem range2{i n:Int}(h1:0≤i)(h2:i<n):(bif decide (0≤i)then decide (i<n)else false)=true:=by
 rw[decide_eq_true h1,decide_eq_true h2];rfl
def ForI(l:List α)(P:α→Prop)(t:Int):Prop:=∃k:Nat,t=k∧k≤l.length∧∀x∈l.take k,P x
theorem ForI.zero:ForI l P 0:=⟨0,rfl,by omega,by simp⟩
theorem ForI.idx(h:ForI l P t):0≤t:=by obtain⟨k,rfl,_,_⟩:=h;omega
theorem ForI.step(h:ForI l P t)(hl:l.length≤9223372036854775807)(hx:l[t.toNat]?=some x)(p:P x):ForI l P (W (t+1))∧l.length-(W (t+1)).toNat<l.length-t.toNat:=by
 obtain⟨k,rfl,hk,ha⟩:=h
 rw[Int.toNat_natCast]at hx
 have:=lt_of_get hx
 rw[W_succ (n:=l.length) this hl]
 refine⟨⟨k+1,rfl,by omega,λz hz=>?_⟩,by omega⟩
 rw[take_succ hx]at hz
 rcases List.mem_append.mp hz with hz|hz
 ·exact ha z hz
 ·rw[List.mem_singleton]at hz;exact hz ▸ p
theorem ForI.done(h:ForI l P t)(c:¬t<l.length):∀x∈l,P x:=by
 obtain⟨k,rfl,hk,ha⟩:=h
 rw[List.take_of_length_le (by omega)]at ha
 exact ha
theorem at_mem(hx:l[t.toNat]?=some x):x∈l:=mem_of_get hx
def ForA(l:List α)(R:α→α→Prop)(t:Int):Prop:=∃k:Nat,t=k∧1≤k∧k≤l.length+1∧∀j x y,j+1<k→l[j]?=some x→l[j+1]?=some y→R x y
theorem ForA.one:ForA l R 1:=⟨1,rfl,by omega,by omega,λj x y h=>by omega⟩
theorem ForA.idx(h:ForA l R t)(hl:l.length≤9223372036854775807)(c:t<l.length):(0≤W (t-1)∧W (t-1)<l.length)∧0≤t:=by
 obtain⟨k,rfl,h1,hk,ha⟩:=h
 rw[W_pred (by omega) h1]
 omega
theorem ForA.step(h:ForA l R t)(hl:l.length≤9223372036854775807)(hx:l[(W (t-1)).toNat]?=some x)(hy:l[t.toNat]?=some y)(p:R x y):ForA l R (W (t+1))∧l.length+1-(W (t+1)).toNat<l.length+1-t.toNat:=by
 obtain⟨k,rfl,h1,hk,ha⟩:=h
 rw[Int.toNat_natCast]at hy
 have hlt:=lt_of_get hy
 rw[W_pred (by omega) h1,Int.toNat_natCast]at hx
 rw[W_succ (n:=l.length) hlt (by omega)]
 refine⟨⟨k+1,rfl,by omega,by omega,λj x' y' hj hx' hy'=>?_⟩,by omega⟩
 by_cases e:j+1=k
 ·subst e
  rw[show j+1-1=j by omega,hx']at hx;cases hx
  rw[hy']at hy;cases hy;exact p
 ·exact ha j x' y' (by omega) hx' hy'
theorem ForA.bad(h:ForA l R t)(hl:l.length≤9223372036854775807)(hx:l[(W (t-1)).toNat]?=some x)(hy:l[t.toNat]?=some y){S:α→α→Prop}(p:¬S x y):¬l.Pairwise S:=by
 obtain⟨k,rfl,h1,hk,ha⟩:=h
 rw[Int.toNat_natCast]at hy
 have hlt:=lt_of_get hy
 rw[W_pred (by omega) h1,Int.toNat_natCast]at hx
 intro hp
 rw[List.pairwise_iff_getElem]at hp
 have:=hp (k-1) k (by omega) hlt (by omega)
 rw[List.getElem?_eq_getElem (by omega)]at hx hy
 rw[Option.some.inj hx,Option.some.inj hy]at this
 exact p this
theorem ForA.done(h:ForA l R t)(c:¬t<l.length)(tr:∀x y z,R x y→R y z→R x z):l.Pairwise R:=by
 obtain⟨k,rfl,h1,hk,ha⟩:=h
 rw[List.pairwise_iff_getElem]
 have key:∀d i,(hi:i+d+1<l.length)→R (l[i]'(by omega)) l[i+d+1]:=by
  intro d
  induction d with
  | zero=>intro i hi;exact ha i _ _ (by omega) (List.getElem?_eq_getElem (by omega)) (List.getElem?_eq_getElem hi)
  | succ d ih =>
   intro i hi
   exact tr _ _ _ (ih i (by omega)) (ha (i+d+1) _ _ (by omega) (List.getElem?_eq_getElem (by omega)) (List.getElem?_eq_getElem hi))
 intro i j hi hj hij
 have:=key (j-i-1) i (by omega)
 simp only[show i+(j-i-1)+1=j by omega]at this
 exact this
def ForG{σ:Type}(l:List α)(g:σ→α→σ)(s0:σ)(t:Int)(s:σ):Prop:=∃k:Nat,t=k∧k≤l.length∧s=(l.take k).foldl g s0
section
variable {σ : Type} {g : σ → α → σ} {s0 s : σ}
theorem ForG.zero:ForG l g s0 0 s0:=⟨0,rfl,by omega,rfl⟩
theorem ForG.idx(h:ForG l g s0 t s):0≤t:=by obtain⟨k,rfl,_,_⟩:=h;omega
theorem ForG.step(h:ForG l g s0 t s)(hl:l.length≤9223372036854775807)(hx:l[t.toNat]?=some x){s':σ}(p:s'=g s x):ForG l g s0 (W (t+1)) s'∧l.length-(W (t+1)).toNat<l.length-t.toNat:=by
 obtain⟨k,rfl,hk,rfl⟩:=h
 rw[Int.toNat_natCast]at hx
 have:=lt_of_get hx
 rw[W_succ (n:=l.length) this hl]
 exact⟨⟨k+1,rfl,by omega,by rw[take_succ hx,List.foldl_append,p];rfl⟩,by omega⟩
theorem ForG.done(h:ForG l g s0 t s)(c:¬t<l.length):s=l.foldl g s0:=by
 obtain⟨k,rfl,hk,rfl⟩:=h
 rw[List.take_of_length_le (by omega)]
end
def ForX{β:Type}(l:List α)(f:α→List β)(t:Int)(out:List β):Prop:=∃k:Nat,t=k∧k≤l.length∧out=(l.take k).flatMap f
section
variable {β : Type} {f : α → List β} {out : List β}
theorem ForX.zero:ForX l f 0 []:=⟨0,rfl,by omega,rfl⟩
theorem ForX.idx(h:ForX l f t out):0≤t:=by obtain⟨k,rfl,_,_⟩:=h;omega
theorem ForX.step(h:ForX l f t out)(hl:l.length≤9223372036854775807)(hx:l[t.toNat]?=some x){out':List β}(p:out'=out++f x):ForX l f (W (t+1)) out'∧l.length-(W (t+1)).toNat<l.length-t.toNat:=by
 obtain⟨k,rfl,hk,rfl⟩:=h
 rw[Int.toNat_natCast]at hx
 have:=lt_of_get hx
 rw[W_succ (n:=l.length) this hl]
 exact⟨⟨k+1,rfl,by omega,by rw[take_succ hx,List.flatMap_append,p];simp⟩,by omega⟩
theorem ForX.done(h:ForX l f t out)(c:¬t<l.length):out=l.flatMap f:=by
 obtain⟨k,rfl,hk,rfl⟩:=h
 rw[List.take_of_length_le (by omega)]
theorem ForX.len(h:ForX l f t out){b:Nat}(hb:∀x∈l,(f x).length≤b):out.length≤l.length * b:=by
 obtain⟨k,rfl,hk,rfl⟩:=h
 have key:∀m:List α,(∀x∈m,(f x).length≤b)→(m.flatMap f).length≤m.length * b:=by
  intro m
  induction m with
  | nil=>intro _;simp
  | cons x m ih =>
   intro hm
   have h1:=hm x (by simp)
   have h2:=ih λy hy=>hm y (by simp[hy])
   rw[List.flatMap_cons,List.length_append,List.length_cons,Nat.succ_mul];omega
 refine Nat.le_trans (key _ λx hx=>hb x (List.mem_of_mem_take hx)) (Nat.mul_le_mul_right _ ?_)
 rw[List.length_take];omega
end
theorem flatMap_if{p:α→Bool}{l:List α}:(l.flatMap λx=>if p x=true then [x]else [])=l.filter p:=by
 induction l with
 | nil=>rfl
 | cons x l ih =>
  rw[List.flatMap_cons,ih,List.filter_cons]
  split<;>rfl
def idxF(p:α→Bool)(l:List α):Int:=if l.any p=true then((l.findIdx p:Nat):Int)else -1
theorem ForI.found{p:α→Bool}(h:ForI l (λy=>p y=false) t)(hx:l[t.toNat]?=some x)(hp:p x=true):t=idxF p l:=by
 obtain⟨k,rfl,hk,ha⟩:=h
 rw[Int.toNat_natCast]at hx
 rw[idxF,if_pos (List.any_eq_true.mpr ⟨x,mem_of_get hx,hp⟩)]
 have:l.findIdx p=k:=by
  have hlt:=lt_of_get hx
  rw[List.getElem?_eq_getElem hlt]at hx
  have hx:=Option.some.inj hx
  rw[List.findIdx_eq hlt]
  refine⟨by rw[hx];exact hp,λj hj=>?_⟩
  exact ha _ (List.mem_take_iff_getElem.mpr ⟨j,by omega,rfl⟩)
 rw[this]
theorem ForI.lost{p:α→Bool}(h:ForI l (λy=>p y=false) t)(c:¬t<l.length):-1=idxF p l:=by
 rw[idxF,if_neg]
 rw[List.any_eq_true]
 rintro⟨x,hx,hp⟩
 rw[h.done c x hx]at hp;cases hp
theorem idxF_any(p:α→Bool)(l:List α):decide (0≤idxF p l)=l.any p:=by
 unfold idxF
 cases l.any p
 ·rfl
 ·rw[if_pos rfl];exact decide_eq_true (by omega)
end
theorem fi_find{α:Type}{l:List α}{t:Int}{x:α}{p:α→Bool}(h:ForI l (λy=>p y=false) t)(hx:l[t.toNat]?=some x)(hp:p x=true):l.find? p=some x:=by
 obtain⟨k,rfl,hk,ha⟩:=h
 rw[Int.toNat_natCast]at hx
 rw[List.find?_eq_some_iff_getElem]
 have hlt:=lt_of_get hx
 refine⟨hp,k,hlt,by rw[List.getElem?_eq_getElem hlt]at hx;exact Option.some.inj hx,λj hj=>?_⟩
 rw[ha _ (List.mem_take_iff_getElem.mpr ⟨j,by omega,rfl⟩)];rfl
theorem fi_none{α:Type}{l:List α}{t:Int}{p:α→Bool}(h:ForI l (λy=>p y=false) t)(c:¬t<l.length):l.find? p=none:=by
 rw[List.find?_eq_none]
 exact λx hx=>by rw[h.done c x hx];simp
def cst5(n:Int):Bool:=decide (1≤n) && decide (n≤1000)
def cst5_a(n:Int):Prop:=okL [.int n]
def cst5_e(r:Bool):AV:=.bool r
def cst5_x(n:Int):Ax Tryz.prog noS (Bool):=
 (.br 64 (decide (1≤n)) (.ret (decide (n≤1000)))
(.ret (false)))
def cst5_vc(n:Int)(r0:Bool):Prop:=(cst5_x n).vp cst5_e r0
theorem cst5_p(n:Int)(ok:cst5_a n):cst5_vc n (cst5 n):=by
 dsimp only[cst5_vc,cst5_x,noS,Ax.vp,Ax.vc];simp only[vcU,rfU,List.length_map]
 refine⟨λc=>?_,λc=>?_⟩<;>simp[cst5,c]
def cst5_c(n:Int):PC Tryz.prog:=⟨80,[.k],[.int n],cst5_e (cst5 n),PSpec.of_ok λok=>mxP_of (sh:=.k) (enc:=cst5_e) (a:=(cst5_x n).an) (cst5_p n ok) (by kernel_rfl) (AV.pureB_ok rfl),fnB_ok (by kernel_rfl)⟩
def has5(t:Tpl)(r:Int):Bool:=t.rs.any λx=>x.id==r
def has5_a(t:Tpl)(r:Int):Prop:=okL [.agg [.sl 2 (t.rs.map Rtr.v) false,.sl 5 (t.ls.map Lnk.v) false],.int r]
def has5_n0(t:Tpl)(r:Int)(t0:Int):NF:=⟨[(1,.k,.int r),(2,.k,.ref 0 0),(5,.k,.int t0)],[.box (.agg [.sl 2 (t.rs.map Rtr.v) false,.sl 5 (t.ls.map Lnk.v) false])]⟩
@[reducible] def has5_s:Nat→Type
 | 0=>Int
 | _=>Unit
def has5_e(r:Bool):AV:=.bool r
def has5_x(t:Tpl)(r:Int)(I0:Int→Prop)(m0:Int→Nat):Ax Tryz.prog has5_s (Bool):=
 (.loop 0 (has5_n0 t r) I0 m0 ((0):Int) [0] λ(t0:Int) b0 =>
(.br 81 (decide (t0<((t.rs.map Rtr.v).length:Int))) (.elI 129 Rtr.v t.rs t0 λx1 =>
(.br 209 (x1.id==r) (.ret (true))
(.bk 0 b0 ((W (t0+1)):Int) [0])))
(.ret (false))))
def has5_vc(t:Tpl)(r:Int)(I0:Int→Prop)(m0:Int→Nat)(r0:Bool):Prop:=(has5_x t r I0 m0).vp has5_e r0
theorem has5_p(t:Tpl)(r:Int)(ok:has5_a t r):∃I m,has5_vc t r I m (has5 t r):=by
 refine⟨λi=>ForI t.rs (λx=>(x.id==r)=false) i,λi=>t.rs.length-i.toNat,?_⟩
 simp only[has5_a,okU,Blk.ok,plainV,List.length_map]at ok
 dsimp only[has5_vc,has5_x,has5_s,Ax.vp,Ax.vc];simp only[vcU,rfU,List.length_map]
 refine⟨ForI.zero,λi h=>⟨λc=>⟨h.idx,c,λx hx=>⟨λq=>?_,λq=>h.step (by omega) hx q⟩⟩,λc=>?_⟩⟩
 ·exact(List.any_eq_true.mpr ⟨x,at_mem hx,q⟩).symm
 ·exact(List.any_eq_false.mpr λx hx=>by rw[h.done c x hx];simp).symm
def has5_c(t:Tpl)(r:Int):PC Tryz.prog:=⟨79,[(.a [(.s 2),(.s 5)]),.k],[.agg [.sl 2 (t.rs.map Rtr.v) false,.sl 5 (t.ls.map Lnk.v) false],.int r],has5_e (has5 t r),PSpec.of_ok λok=>(has5_p t r ok).elim λI0 h=>h.elim λm0 h=>mxP_of (sh:=.k) (enc:=has5_e) (a:=(has5_x t r I0 m0).an) h (by kernel_rfl) (AV.pureB_ok rfl),fnB_ok (by kernel_rfl)⟩
def lnkR(l:Lnk):Prop:=cst5 l.ca=true∧cst5 l.cb=true∧0≤l.w∧l.w≤1000
instance (l:Lnk):Decidable (lnkR l):=by unfold lnkR;infer_instance
def lnkL(x y:Lnk):Prop:=x.a<y.a∨x.a=y.a∧x.b<y.b
instance (x y:Lnk):Decidable (lnkL x y):=by unfold lnkL;infer_instance
def chk5(t:Tpl):Int:=
 if 24<t.rs.length∨60<t.ls.length then 3
 else if ¬∀x∈t.rs,1≤x.id∧x.id≤99 then 2
 else if ¬t.rs.Pairwise (λx y=>x.id<y.id)then 25
 else if ¬∀l∈t.ls,lnkR l then 2
 else if ¬∀l∈t.ls,has5 t l.a=true∧has5 t l.b=true then 4
 else if ¬∀l∈t.ls,l.a<l.b then 8
 else if ¬t.ls.Pairwise lnkL then 25 else 0
def chk5_a(t:Tpl):Prop:=okL [.agg [.sl 2 (t.rs.map Rtr.v) false,.sl 5 (t.ls.map Lnk.v) false]]
def chk5_n0(t:Tpl)(t0:Bool):NF:=⟨[(1,.k,.ref 0 0),(21,.k,.bool t0)],[.box (.agg [.sl 2 (t.rs.map Rtr.v) false,.sl 5 (t.ls.map Lnk.v) false])]⟩
def chk5_n1(t:Tpl)(t1:Int):NF:=⟨[(1,.k,.ref 0 0),(3,.k,.int t1)],[.box (.agg [.sl 2 (t.rs.map Rtr.v) false,.sl 5 (t.ls.map Lnk.v) false])]⟩
def chk5_n2(t:Tpl)(t1:Int)(t2:Bool):NF:=⟨[(1,.k,.ref 0 0),(3,.k,.int t1),(44,.k,.bool t2)],[.box (.agg [.sl 2 (t.rs.map Rtr.v) false,.sl 5 (t.ls.map Lnk.v) false])]⟩
def chk5_n3(t:Tpl)(t3:Int):NF:=⟨[(1,.k,.ref 0 0),(4,.k,.int t3)],[.box (.agg [.sl 2 (t.rs.map Rtr.v) false,.sl 5 (t.ls.map Lnk.v) false])]⟩
def chk5_n4(t:Tpl)(t4:Int):NF:=⟨[(1,.k,.ref 0 0),(5,.k,.int t4)],[.box (.agg [.sl 2 (t.rs.map Rtr.v) false,.sl 5 (t.ls.map Lnk.v) false])]⟩
def chk5_n5(t:Tpl)(t4:Int)(t5:Bool):NF:=⟨[(1,.k,.ref 0 0),(5,.k,.int t4),(97,.k,.bool t5)],[.box (.agg [.sl 2 (t.rs.map Rtr.v) false,.sl 5 (t.ls.map Lnk.v) false])]⟩
def chk5_n6(t:Tpl)(t6:Int):NF:=⟨[(1,.k,.ref 0 0),(7,.k,.int t6)],[.box (.agg [.sl 2 (t.rs.map Rtr.v) false,.sl 5 (t.ls.map Lnk.v) false])]⟩
def chk5_n7(t:Tpl)(t6:Int)(t7:Bool):NF:=⟨[(1,.k,.ref 0 0),(7,.k,.int t6),(124,.k,.bool t7)],[.box (.agg [.sl 2 (t.rs.map Rtr.v) false,.sl 5 (t.ls.map Lnk.v) false])]⟩
def chk5_n8(t:Tpl)(t8:Int):NF:=⟨[(1,.k,.ref 0 0),(8,.k,.int t8)],[.box (.agg [.sl 2 (t.rs.map Rtr.v) false,.sl 5 (t.ls.map Lnk.v) false])]⟩
def chk5_n9(t:Tpl)(t9:Int):NF:=⟨[(1,.k,.ref 0 0),(9,.k,.int t9)],[.box (.agg [.sl 2 (t.rs.map Rtr.v) false,.sl 5 (t.ls.map Lnk.v) false])]⟩
def chk5_n10(t:Tpl)(t9:Int)(t10:Bool):NF:=⟨[(1,.k,.ref 0 0),(9,.k,.int t9),(181,.k,.bool t10)],[.box (.agg [.sl 2 (t.rs.map Rtr.v) false,.sl 5 (t.ls.map Lnk.v) false])]⟩
@[reducible] def chk5_s:Nat→Type
 | 0=>Bool
 | 1=>Int
 | 2=>Bool
 | 3=>Int
 | 4=>Int
 | 5=>Bool
 | 6=>Int
 | 7=>Bool
 | 8=>Int
 | 9=>Int
 | 10=>Bool
 | _=>Unit
def chk5_e(r:Int):AV:=.int r
def chk5_x(t:Tpl)(I0:Bool→Prop)(I1:Bool→Int→Prop)(m1:Bool→Int→Nat)(I2:Bool→Int→Bool→Prop)(I3:Bool→Int→Int→Prop)(m3:Bool→Int→Int→Nat)(I4:Bool→Int→Int→Int→Prop)(m4:Bool→Int→Int→Int→Nat)(I5:Bool→Int→Int→Int→Lnk→Bool→Prop)(I6:Bool→Int→Int→Int→Int→Prop)(m6:Bool→Int→Int→Int→Int→Nat)(I7:Bool→Int→Int→Int→Int→Bool→Prop)(I8:Bool→Int→Int→Int→Int→Int→Prop)(m8:Bool→Int→Int→Int→Int→Int→Nat)(I9:Bool→Int→Int→Int→Int→Int→Int→Prop)(m9:Bool→Int→Int→Int→Int→Int→Int→Nat)(I10:Bool→Int→Int→Int→Int→Int→Int→Lnk→Lnk→Bool→Prop):Ax Tryz.prog chk5_s (Int):=
 (.pass (.pass (.join 0 (chk5_n0 t) (λ(t0:Bool)=>I0 t0) (λb0=>(.br 112 (decide (24<((t.rs.map Rtr.v).length:Int))) (.bk 0 b0 ((true):Bool) [0])
(.bk 0 b0 ((decide (60<((t.ls.map Lnk.v).length:Int))):Bool) [0]))) λ(t0:Bool) =>
(.br 1 t0 (.ret (3))
(.loop 1 (chk5_n1 t) (I1 t0) (m1 t0) ((0):Int) [0] λ(t1:Int) b1 =>
(.br 81 (decide (t1<((t.rs.map Rtr.v).length:Int))) (.pass (.join 2 (chk5_n2 t t1) (λ(t2:Bool)=>I2 t0 t1 t2) (λb2=>(.elI 129 Rtr.v t.rs t1 λx1 =>
(.br 209 (decide (x1.id<1)) (.bk 2 b2 ((true):Bool) [0])
(.elI 257 Rtr.v t.rs t1 λx2 =>
(.bk 2 b2 ((decide (99<x2.id)):Bool) [0]))))) λ(t2:Bool) =>
(.br 1 t2 (.ret (2))
(.bk 1 b1 ((W (t1+1)):Int) [0]))))
(.loop 3 (chk5_n3 t) (I3 t0 t1) (m3 t0 t1) ((1):Int) [0] λ(t3:Int) b3 =>
(.br 81 (decide (t3<((t.rs.map Rtr.v).length:Int))) (.elI 145 Rtr.v t.rs (W (t3-1)) λx3 =>
(.elI 241 Rtr.v t.rs t3 λx4 =>
(.br 305 (decide (x4.id≤x3.id)) (.ret (25))
(.bk 3 b3 ((W (t3+1)):Int) [0]))))
(.loop 4 (chk5_n4 t) (I4 t0 t1 t3) (m4 t0 t1 t3) ((0):Int) [0] λ(t4:Int) b4 =>
(.br 81 (decide (t4<((t.ls.map Lnk.v).length:Int))) (.elI 129 Lnk.v t.ls t4 λx5 =>
(.join 5 (chk5_n5 t t4) (λ(t5:Bool)=>I5 t0 t1 t3 t4 x5 t5) (λb5=>(.callP (cst5_c x5.ca)
(.br 273 (!(cst5 x5.ca)) (.bk 5 b5 ((true):Bool) [0])
(.callP (cst5_c x5.cb)
(.br 369 (!(cst5 x5.cb)) (.bk 5 b5 ((true):Bool) [0])
(.br 449 (decide (x5.w<0)) (.bk 5 b5 ((true):Bool) [0])
(.bk 5 b5 ((decide (1000<x5.w)):Bool) [0]))))))) λ(t5:Bool) =>
(.br 1 t5 (.ret (2))
(.bk 4 b4 ((W (t4+1)):Int) [0]))))
(.loop 6 (chk5_n6 t) (I6 t0 t1 t3 t4) (m6 t0 t1 t3 t4) ((0):Int) [0] λ(t6:Int) b6 =>
(.br 81 (decide (t6<((t.ls.map Lnk.v).length:Int))) (.pass (.join 7 (chk5_n7 t t6) (λ(t7:Bool)=>I7 t0 t1 t3 t4 t6 t7) (λb7=>(.elI 145 Lnk.v t.ls t6 λx6 =>
(.callP (has5_c t x6.a)
(.br 241 (!(has5 t x6.a)) (.bk 7 b7 ((true):Bool) [0])
(.elI 305 Lnk.v t.ls t6 λx7 =>
(.callP (has5_c t x7.b)
(.bk 7 b7 ((!(has5 t x7.b)):Bool) [0]))))))) λ(t7:Bool) =>
(.br 1 t7 (.ret (4))
(.bk 6 b6 ((W (t6+1)):Int) [0]))))
(.loop 8 (chk5_n8 t) (I8 t0 t1 t3 t4 t6) (m8 t0 t1 t3 t4 t6) ((0):Int) [0] λ(t8:Int) b8 =>
(.br 81 (decide (t8<((t.ls.map Lnk.v).length:Int))) (.elI 129 Lnk.v t.ls t8 λx8 =>
(.elI 225 Lnk.v t.ls t8 λx9 =>
(.br 289 (decide (x9.b≤x8.a)) (.ret (8))
(.bk 8 b8 ((W (t8+1)):Int) [0]))))
(.loop 9 (chk5_n9 t) (I9 t0 t1 t3 t4 t6 t8) (m9 t0 t1 t3 t4 t6 t8) ((1):Int) [0] λ(t9:Int) b9 =>
(.br 81 (decide (t9<((t.ls.map Lnk.v).length:Int))) (.elI 145 Lnk.v t.ls (W (t9-1)) λx10 =>
(.elI 225 Lnk.v t.ls t9 λx11 =>
(.join 10 (chk5_n10 t t9) (λ(t10:Bool)=>I10 t0 t1 t3 t4 t6 t8 t9 x10 x11 t10) (λb10=>(.br 417 (decide (x11.a<x10.a)) (.bk 10 b10 ((true):Bool) [0])
(.br 513 (x10.a==x11.a) (.bk 10 b10 ((decide (x11.b≤x10.b)):Bool) [0])
(.bk 10 b10 ((false):Bool) [0])))) λ(t10:Bool) =>
(.br 1 t10 (.ret (25))
(.bk 9 b9 ((W (t9+1)):Int) [0])))))
(.ret (0))))))))))))))))))
def chk5_vc(t:Tpl)(I0:Bool→Prop)(I1:Bool→Int→Prop)(m1:Bool→Int→Nat)(I2:Bool→Int→Bool→Prop)(I3:Bool→Int→Int→Prop)(m3:Bool→Int→Int→Nat)(I4:Bool→Int→Int→Int→Prop)(m4:Bool→Int→Int→Int→Nat)(I5:Bool→Int→Int→Int→Lnk→Bool→Prop)(I6:Bool→Int→Int→Int→Int→Prop)(m6:Bool→Int→Int→Int→Int→Nat)(I7:Bool→Int→Int→Int→Int→Bool→Prop)(I8:Bool→Int→Int→Int→Int→Int→Prop)(m8:Bool→Int→Int→Int→Int→Int→Nat)(I9:Bool→Int→Int→Int→Int→Int→Int→Prop)(m9:Bool→Int→Int→Int→Int→Int→Int→Nat)(I10:Bool→Int→Int→Int→Int→Int→Int→Lnk→Lnk→Bool→Prop)(r0:Int):Prop:=(chk5_x t I0 I1 m1 I2 I3 m3 I4 m4 I5 I6 m6 I7 I8 m8 I9 m9 I10).vp chk5_e r0
theorem chk5_p(t:Tpl)(ok:chk5_a t):∃I0 I1 m1 I2 I3 m3 I4 m4 I5 I6 m6 I7 I8 m8 I9 m9 I10,chk5_vc t I0 I1 m1 I2 I3 m3 I4 m4 I5 I6 m6 I7 I8 m8 I9 m9 I10 (chk5 t):=by
 refine⟨λb=>b=decide (24<t.rs.length∨60<t.ls.length),λ_ i=>ForI t.rs (λx=>1≤x.id∧x.id≤99) i,λ_ i=>t.rs.length-i.toNat,
  λ_ i b=>∀x,t.rs[i.toNat]?=some x→b=decide (¬(1≤x.id∧x.id≤99)),λ_ _ i=>ForA t.rs (λx y=>x.id<y.id) i,λ_ _ i=>t.rs.length+1-i.toNat,
  λ_ _ _ i=>ForI t.ls lnkR i,λ_ _ _ i=>t.ls.length-i.toNat,λ_ _ _ _ l b=>b=decide (¬lnkR l),λ_ _ _ _ i=>ForI t.ls (λl=>has5 t l.a=true∧has5 t l.b=true) i,λ_ _ _ _ i=>t.ls.length-i.toNat,
  λ_ _ _ _ i b=>∀l,t.ls[i.toNat]?=some l→b=decide (¬(has5 t l.a=true∧has5 t l.b=true)),λ_ _ _ _ _ i=>ForI t.ls (λl=>l.a<l.b) i,λ_ _ _ _ _ i=>t.ls.length-i.toNat,
  λ_ _ _ _ _ _ i=>ForA t.ls lnkL i,λ_ _ _ _ _ _ i=>t.ls.length+1-i.toNat,λ_ _ _ _ _ _ _ x y b=>b=decide (¬lnkL x y),?_⟩
 simp only[chk5_a,okU,Blk.ok,plainV,List.length_map]at ok
 dsimp only[chk5_vc,chk5_x,chk5_s,Ax.vp,Ax.vc];simp only[vcU,rfU,List.length_map]
 refine⟨⟨λc=>(decide_eq_true (.inl (by omega))).symm,λc=>decide_eq_decide.mpr (by omega)⟩,?_⟩
 rintro _ rfl
 unfold chk5
 refine⟨λc=>by rw[if_pos (of_decide_eq_true c)],λc=>⟨ForI.zero,λi1 h1=>⟨λd=>⟨⟨h1.idx,d,λx hx=>⟨λe y hy=>?_,λe=>⟨h1.idx,d,λy hy z hz=>?_⟩⟩⟩,?_⟩,λd=>?_⟩⟩⟩
 ·rw[hx]at hy;cases hy;exact(decide_eq_true (by omega)).symm
 ·rw[hx]at hy;cases hy;rw[hx]at hz;cases hz;exact decide_eq_decide.mpr (by omega)
 ·have c:=of_decide_eq_false c
  have hx:=List.getElem?_eq_getElem (show i1.toNat<t.rs.length by have:=h1.idx;omega)
  intro b hb
  have hb:=hb _ hx
  subst hb
  refine⟨λe=>?_,λe=>h1.step (by omega) hx (Classical.not_not.mp (of_decide_eq_false e))⟩
  rw[if_neg c,if_pos λq=>of_decide_eq_true e (q _ (at_mem hx))]
 have c:=of_decide_eq_false c
 rw[if_neg c,if_neg (not_not_intro (h1.done d))]
 refine⟨ForA.one,λi2 h2=>⟨λd2=>?_,λd2=>?_⟩⟩
 ·obtain⟨a1,a2⟩:=h2.idx (by omega) d2
  refine⟨a1.1,a1.2,λx hx=>⟨a2,d2,λy hy=>⟨λe=>?_,λe=>h2.step (by omega) hx hy (by omega)⟩⟩⟩
  rw[if_pos (h2.bad (by omega) hx hy (by omega))]
 rw[if_neg (not_not_intro (h2.done d2 λ_ _ _ q r=>Int.lt_trans q r))]
 refine⟨ForI.zero,λi3 h3=>⟨λd3=>⟨h3.idx,d3,λx hx=>⟨⟨λe=>?_,λe=>⟨λe2=>?_,λe2=>⟨λe3=>?_,λe3=>?_⟩⟩⟩,?_⟩⟩,λd3=>?_⟩⟩
 ·exact(decide_eq_true (show ¬lnkR x from λq=>by rw[q.1]at e;cases e)).symm
 ·exact(decide_eq_true (show ¬lnkR x from λq=>by rw[q.2.1]at e2;cases e2)).symm
 ·exact(decide_eq_true (show ¬lnkR x from λq=>by have:=q.2.2.1;omega)).symm
 ·have e:cst5 x.ca=true:=by simpa using e
  have e2:cst5 x.cb=true:=by simpa using e2
  refine decide_eq_decide.mpr ⟨λq r=>by have:=r.2.2.2;omega,λq=>?_⟩
  exact Classical.byContradiction λr=>q ⟨e,e2,by omega,by omega⟩
 ·rintro _ rfl
  refine⟨λe=>?_,λe=>h3.step (by omega) hx (Classical.not_not.mp (of_decide_eq_false e))⟩
  rw[if_pos λq=>of_decide_eq_true e (q _ (at_mem hx))]
 rw[if_neg (not_not_intro (h3.done d3))]
 refine⟨ForI.zero,λi4 h4=>⟨λd4=>⟨⟨h4.idx,d4,λx hx=>⟨λe y hy=>?_,λe=>⟨h4.idx,d4,λy hy z hz=>?_⟩⟩⟩,?_⟩,λd4=>?_⟩⟩
 ·rw[hx]at hy;cases hy
  exact(decide_eq_true (show ¬(has5 t x.a=true∧has5 t x.b=true)from λq=>by rw[q.1]at e;cases e)).symm
 ·rw[hx]at hy;cases hy;rw[hx]at hz;cases hz
  have e:has5 t x.a=true:=by simpa using e
  cases q:has5 t x.b<;>simp[e]
 ·have hx:=List.getElem?_eq_getElem (show i4.toNat<t.ls.length by have:=h4.idx;omega)
  intro b hb
  have hb:=hb _ hx
  subst hb
  refine⟨λe=>?_,λe=>h4.step (by omega) hx (Classical.not_not.mp (of_decide_eq_false e))⟩
  rw[if_pos λq=>of_decide_eq_true e (q _ (at_mem hx))]
 rw[if_neg (not_not_intro (h4.done d4))]
 refine⟨ForI.zero,λi5 h5=>⟨λd5=>⟨h5.idx,d5,λx hx=>⟨h5.idx,d5,λy hy=>?_⟩⟩,λd5=>?_⟩⟩
 ·rw[hx]at hy;cases hy
  refine⟨λe=>?_,λe=>h5.step (by omega) hx (by omega)⟩
  rw[if_pos λq=>by have:=q _ (at_mem hx);omega]
 rw[if_neg (not_not_intro (h5.done d5))]
 refine⟨ForA.one,λi6 h6=>⟨λd6=>?_,λd6=>?_⟩⟩
 ·obtain⟨a1,a2⟩:=h6.idx (by omega) d6
  refine⟨a1.1,a1.2,λx hx=>⟨a2,d6,λy hy=>⟨⟨λe=>?_,λe=>⟨λe2=>?_,λe2=>?_⟩⟩,?_⟩⟩⟩
  ·exact(decide_eq_true (show ¬lnkL x y from λq=>by unfold lnkL at q;omega)).symm
  ·have e2:=eq_of_beq e2
   exact decide_eq_decide.mpr (by unfold lnkL;omega)
  ·have e2:¬x.a=y.a:=by simpa using e2
   exact(decide_eq_false (not_not_intro (.inl (by omega)))).symm
  ·rintro _ rfl
   refine⟨λe=>?_,λe=>h6.step (by omega) hx hy (Classical.not_not.mp (of_decide_eq_false e))⟩
   rw[if_pos (h6.bad (by omega) hx hy (of_decide_eq_true e))]
 ·rw[if_neg (not_not_intro (h6.done d6 λ_ _ _ q r=>by unfold lnkL at *;omega))]
def chk5_c(t:Tpl):PC Tryz.prog:=⟨58,[(.a [(.s 2),(.s 5)])],[.agg [.sl 2 (t.rs.map Rtr.v) false,.sl 5 (t.ls.map Lnk.v) false]],chk5_e (chk5 t),PSpec.of_ok λok=>(chk5_p t ok).elim λI0 h=>h.elim λI1 h=>h.elim λm1 h=>h.elim λI2 h=>h.elim λI3 h=>h.elim λm3 h=>h.elim λI4 h=>h.elim λm4 h=>h.elim λI5 h=>h.elim λI6 h=>h.elim λm6 h=>h.elim λI7 h=>h.elim λI8 h=>h.elim λm8 h=>h.elim λI9 h=>h.elim λm9 h=>h.elim λI10 h=>mxP_of (sh:=.k) (enc:=chk5_e) (a:=(chk5_x t I0 I1 m1 I2 I3 m3 I4 m4 I5 I6 m6 I7 I8 m8 I9 m9 I10).an) h (by kernel_rfl) (AV.pureB_ok rfl),fnB_ok (by kernel_rfl)⟩
def prcH(f g:Int)(l:Lnk):Bool:=(l.a==f && l.b==g) || (l.b==f && l.a==g)
def prc5(t:Tpl)(f g:Int):Int×Bool:=match t.ls.find? (prcH f g)with
 | some l=>(if(l.a==f && l.b==g)=true then l.ca else l.cb,true)
 | none=>(0,false)
def prc5_a(t:Tpl)(from_:Int)(to_:Int):Prop:=okL [.agg [.sl 2 (t.rs.map Rtr.v) false,.sl 5 (t.ls.map Lnk.v) false],.int from_,.int to_]
def prc5_n0(t:Tpl)(from_:Int)(to_:Int)(t0:Int):NF:=⟨[(1,.k,.int from_),(2,.k,.int to_),(3,.k,.ref 0 0),(8,.k,.int t0)],[.box (.agg [.sl 2 (t.rs.map Rtr.v) false,.sl 5 (t.ls.map Lnk.v) false])]⟩
def prc5_n1(t:Tpl)(from_:Int)(to_:Int)(t0:Int)(x1:Lnk)(t1:Bool):NF:=⟨[(1,.k,.int from_),(2,.k,.int to_),(3,.k,.ref 0 0),(8,.k,.int t0),(9,.k,.ref 1 0),(31,.k,.bool t1)],[.box (.agg [.sl 2 (t.rs.map Rtr.v) false,.sl 5 (t.ls.map Lnk.v) false]),.box (.agg [.int x1.a,.int x1.b,.int x1.ca,.int x1.cb,.int x1.w])]⟩
def prc5_n2(t:Tpl)(from_:Int)(to_:Int)(t0:Int)(x1:Lnk)(t2:Bool):NF:=⟨[(1,.k,.int from_),(2,.k,.int to_),(3,.k,.ref 0 0),(8,.k,.int t0),(9,.k,.ref 1 0),(43,.k,.bool t2)],[.box (.agg [.sl 2 (t.rs.map Rtr.v) false,.sl 5 (t.ls.map Lnk.v) false]),.box (.agg [.int x1.a,.int x1.b,.int x1.ca,.int x1.cb,.int x1.w])]⟩
@[reducible] def prc5_s:Nat→Type
 | 0=>Int
 | 1=>Bool
 | 2=>Bool
 | _=>Unit
def prc5_e(r:Int×Bool):AV:=.tup [.int r.1,.bool r.2]
def prc5_x(t:Tpl)(from_:Int)(to_:Int)(I0:Int→Prop)(m0:Int→Nat)(I1:Int→Lnk→Bool→Prop)(I2:Int→Lnk→Bool→Bool→Prop):Ax Tryz.prog prc5_s (Int×Bool):=
 (.loop 0 (prc5_n0 t from_ to_) I0 m0 ((0):Int) [0] λ(t0:Int) b0 =>
(.br 81 (decide (t0<((t.ls.map Lnk.v).length:Int))) (.elI 129 Lnk.v t.ls t0 λx1 =>
(.pass (.join 1 (prc5_n1 t from_ to_ t0 x1) (λ(t1:Bool)=>I1 t0 x1 t1) (λb1=>(.br 273 (x1.a==from_) (.bk 1 b1 ((x1.b==to_):Bool) [0,161])
(.bk 1 b1 ((false):Bool) [0,161]))) λ(t1:Bool) =>
(.br 2 t1 (.ret (x1.ca,true))
(.join 2 (prc5_n2 t from_ to_ t0 x1) (λ(t2:Bool)=>I2 t0 x1 t1 t2) (λb2=>(.br 82 (x1.b==from_) (.bk 2 b2 ((x1.a==to_):Bool) [0,1])
(.bk 2 b2 ((false):Bool) [0,1]))) λ(t2:Bool) =>
(.br 2 t2 (.ret (x1.cb,true))
(.bk 0 b0 ((W (t0+1)):Int) [0])))))))
(.ret (0,false))))
def prc5_vc(t:Tpl)(from_:Int)(to_:Int)(I0:Int→Prop)(m0:Int→Nat)(I1:Int→Lnk→Bool→Prop)(I2:Int→Lnk→Bool→Bool→Prop)(r0:Int×Bool):Prop:=(prc5_x t from_ to_ I0 m0 I1 I2).vp prc5_e r0
theorem prc5_p(t:Tpl)(f g:Int)(ok:prc5_a t f g):∃I0 m0 I1 I2,prc5_vc t f g I0 m0 I1 I2 (prc5 t f g):=by
 refine⟨λi=>ForI t.ls (λl=>prcH f g l=false) i,λi=>t.ls.length-i.toNat,λ_ l b=>b=(l.a==f && l.b==g),λ_ l _ b=>b=(l.b==f && l.a==g),?_⟩
 simp only[prc5_a,okU,Blk.ok,plainV,List.length_map]at ok
 dsimp only[prc5_vc,prc5_x,prc5_s,Ax.vp,Ax.vc];simp only[vcU,rfU,List.length_map]
 refine⟨ForI.zero,λi h=>⟨λc=>⟨h.idx,c,λx hx=>⟨⟨λe=>by rw[e];rfl,λe=>by rw[e];rfl⟩,?_⟩⟩,λc=>?_⟩⟩
 ·rintro _ rfl
  refine⟨λe=>?_,λe=>⟨⟨λe2=>by rw[e2];rfl,λe2=>by rw[e2];rfl⟩,?_⟩⟩
  ·rw[prc5,fi_find h hx (by rw[prcH,e];rfl)]
   simp only;rw[if_pos e]
  ·rintro _ rfl
   refine⟨λe2=>?_,λe2=>h.step (by omega) hx (by rw[prcH,e,e2];rfl)⟩
   rw[prc5,fi_find h hx (by rw[prcH,e2,Bool.or_true])]
   simp only;rw[if_neg (by rw[e];simp)]
 ·rw[prc5,fi_none h c]
def prc5_c(t:Tpl)(from_:Int)(to_:Int):PC Tryz.prog:=⟨53,[(.a [(.s 2),(.s 5)]),.k,.k],[.agg [.sl 2 (t.rs.map Rtr.v) false,.sl 5 (t.ls.map Lnk.v) false],.int from_,.int to_],prc5_e (prc5 t from_ to_),PSpec.of_ok λok=>(prc5_p t from_ to_ ok).elim λI0 h=>h.elim λm0 h=>h.elim λI1 h=>h.elim λI2 h=>mxP_of (sh:=.k) (enc:=prc5_e) (a:=(prc5_x t from_ to_ I0 m0 I1 I2).an) h (by kernel_rfl) (AV.pureB_ok rfl),fnB_ok (by kernel_rfl)⟩
def nea5(t:Tpl)(r:Int):List Int:=t.rs.flatMap λx=>if(prc5 t r x.id).2=true then [x.id]else []
def nea5_a(t:Tpl)(r:Int):Prop:=okL [.agg [.sl 2 (t.rs.map Rtr.v) false,.sl 5 (t.ls.map Lnk.v) false],.int r]
def nea5_n0(t:Tpl)(r:Int)(t0:Int×(List Int)):NF:=⟨[(1,.k,.int r),(2,.k,.ref 0 0),(5,.k,.vec 1),(6,.k,.int t0.1)],[.box (.agg [.sl 2 (t.rs.map Rtr.v) false,.sl 5 (t.ls.map Lnk.v) false]),.vec 1 (t0.2.map AV.int) (pureBL_map (λ_=>rfl) t0.2)]⟩
@[reducible] def nea5_s:Nat→Type
 | 0=>Int×(List Int)
 | _=>Unit
def nea5_e(r:(List Int)):AV:=.sl 1 (r.map AV.int) false
def nea5_x(t:Tpl)(r:Int)(I0:(Int×(List Int))→Prop)(m0:(Int×(List Int))→Nat):Ax Tryz.prog nea5_s ((List Int)):=
 (.cmdL (.nilT 5 1) (.loop 0 (nea5_n0 t r) I0 m0 (0,[]) [0,64] λ(t0:Int×(List Int)) b0 =>
(.br 82 (decide (t0.1<((t.rs.map Rtr.v).length:Int))) (.elI 162 Rtr.v t.rs t0.1 λx1 =>
(.callP (prc5_c t r x1.id)
(.br 322 ((prc5 t r x1.id).2) (.elI 386 Rtr.v t.rs t0.1 λx2 =>
(.apX 450 AV.int t0.2 [x2.id] (t0.2.length+1)
(.bk 0 b0 (W (t0.1+1),t0.2++[x2.id]) [0,450])))
(.bk 0 b0 (W (t0.1+1),t0.2) [0,1]))))
(.fz 1 AV.int t0.2 (λ_=>rfl) (.ret (t0.2))))))
def nea5_vc(t:Tpl)(r:Int)(I0:(Int×(List Int))→Prop)(m0:(Int×(List Int))→Nat)(r0:(List Int)):Prop:=(nea5_x t r I0 m0).vp nea5_e r0
theorem nea5_p(t:Tpl)(r:Int)(h:t.rs.length≤1000)(ok:nea5_a t r):∃I m,nea5_vc t r I m (nea5 t r):=by
 refine⟨λs=>ForX t.rs (λx=>if(prc5 t r x.id).2=true then [x.id]else []) s.1 s.2,λs=>t.rs.length-s.1.toNat,?_⟩
 dsimp only[nea5_vc,nea5_x,nea5_s,Ax.vp,Ax.vc];simp only[vcU,rfU,List.length_map]
 refine⟨ForX.zero,?_⟩
 rintro⟨i,out⟩ g
 simp only at g ⊢
 have hl:=g.len (b:=1) λx _=>by split<;>simp
 refine⟨λc=>⟨g.idx,c,λx hx=>?_⟩,λc=>?_⟩
 ·refine⟨λe=>⟨g.idx,c,λy hy=>⟨by omega,?_⟩⟩,λe=>g.step (by omega) hx (by rw[if_neg (by rw[e];simp)];simp)⟩
  rw[hx]at hy;cases hy
  exact g.step (by omega) hx (by rw[if_pos e])
 ·exact g.done c
def nea5_c(t:Tpl)(r:Int)(h:t.rs.length≤1000):PC Tryz.prog:=⟨110,[(.a [(.s 2),(.s 5)]),.k],[.agg [.sl 2 (t.rs.map Rtr.v) false,.sl 5 (t.ls.map Lnk.v) false],.int r],nea5_e (nea5 t r),PSpec.of_ok λok=>(nea5_p t r h ok).elim λI0 h=>h.elim λm0 h=>mxP_of (sh:=(.s 1)) (enc:=nea5_e) (a:=(nea5_x t r I0 m0).an) h (by kernel_rfl) (AV.pureB_ok rfl),fnB_ok (by kernel_rfl)⟩
theorem chk5_len{t:Tpl}(h:chk5 t=0):t.rs.length≤24∧t.ls.length≤60:=by
 unfold chk5 at h
 by_cases c:24<t.rs.length∨60<t.ls.length
 ·rw[if_pos c]at h;cases h
 ·omega
def hs5(t:Tpl)(r:Int):Bool:=(chk5 t==0) && has5 t r
def hs5_a(t:Tpl)(r:Int):Prop:=okL [.agg [.sl 2 (t.rs.map Rtr.v) false,.sl 5 (t.ls.map Lnk.v) false],.int r]
def hs5_e(r:Bool):AV:=.bool r
def hs5_x(t:Tpl)(r:Int):Ax Tryz.prog noS (Bool):=
 (.callP (chk5_c t)
(.br 96 ((chk5 t)==0) (.callP (has5_c t r)
(.ret (has5 t r)))
(.ret (false))))
def hs5_vc(t:Tpl)(r:Int)(r0:Bool):Prop:=(hs5_x t r).vp hs5_e r0
theorem hs5_p(t:Tpl)(r:Int)(ok:hs5_a t r):hs5_vc t r (hs5 t r):=by
 dsimp only[hs5_vc,hs5_x,noS,Ax.vp,Ax.vc];simp only[vcU,rfU,List.length_map]
 refine⟨λc=>?_,λc=>?_⟩<;>rw[hs5,c]<;>rfl
def hs5_c(t:Tpl)(r:Int):PC Tryz.prog:=⟨74,[(.a [(.s 2),(.s 5)]),.k],[.agg [.sl 2 (t.rs.map Rtr.v) false,.sl 5 (t.ls.map Lnk.v) false],.int r],hs5_e (hs5 t r),PSpec.of_ok λok=>mxP_of (sh:=.k) (enc:=hs5_e) (a:=(hs5_x t r).an) (hs5_p t r ok) (by kernel_rfl) (AV.pureB_ok rfl),fnB_ok (by kernel_rfl)⟩
def cos5(t:Tpl)(f g:Int):Int×Bool:=if chk5 t≠0 then(0,false)else prc5 t f g
def cos5_a(t:Tpl)(from_:Int)(to_:Int):Prop:=okL [.agg [.sl 2 (t.rs.map Rtr.v) false,.sl 5 (t.ls.map Lnk.v) false],.int from_,.int to_]
def cos5_e(r:Int×Bool):AV:=.tup [.int r.1,.bool r.2]
def cos5_x(t:Tpl)(from_:Int)(to_:Int):Ax Tryz.prog noS (Int×Bool):=
 (.callP (chk5_c t)
(.br 96 ((chk5 t) != 0) (.ret (0,false))
(.callP (prc5_c t from_ to_)
(.ret ((prc5 t from_ to_).1,(prc5 t from_ to_).2)))))
def cos5_vc(t:Tpl)(from_:Int)(to_:Int)(r0:Int×Bool):Prop:=(cos5_x t from_ to_).vp cos5_e r0
theorem cos5_p(t:Tpl)(f g:Int)(ok:cos5_a t f g):cos5_vc t f g (cos5 t f g):=by
 dsimp only[cos5_vc,cos5_x,noS,Ax.vp,Ax.vc];simp only[vcU,rfU,List.length_map]
 refine⟨λc=>?_,λc=>?_⟩
 ·rw[cos5,if_pos (by simpa using c)]
 ·rw[cos5,if_neg (by simpa using c)]
def cos5_c(t:Tpl)(from_:Int)(to_:Int):PC Tryz.prog:=⟨129,[(.a [(.s 2),(.s 5)]),.k,.k],[.agg [.sl 2 (t.rs.map Rtr.v) false,.sl 5 (t.ls.map Lnk.v) false],.int from_,.int to_],cos5_e (cos5 t from_ to_),PSpec.of_ok λok=>mxP_of (sh:=.k) (enc:=cos5_e) (a:=(cos5_x t from_ to_).an) (cos5_p t from_ to_ ok) (by kernel_rfl) (AV.pureB_ok rfl),fnB_ok (by kernel_rfl)⟩
theorem halfB(i j:Nat)(h:i≤j)(hj:j≤1000000):W ((IntKind.u64.wrap (W ((i:Int)+j))).fdiv 2)=(((i+j) / 2:Nat):Int):=by
 have e1:W ((i:Int)+j)=((i+j:Nat):Int):=W_eq ⟨by omega,by omega⟩
 rw[e1]
 have e2:IntKind.u64.wrap ((i+j:Nat):Int)=((i+j:Nat):Int):=by simp[IntKind.wrap,IntKind.signed,IntKind.bits];omega
 rw[e2,show Int.fdiv ((i+j:Nat):Int) 2=(((i+j) / 2:Nat):Int) by rw[Int.fdiv_eq_ediv_of_nonneg _ (by omega)];rfl]
 exact W_eq ⟨by omega,by omega⟩
theorem cmpI_lt(x y:Int):cmpI x y<0↔x<y:=by
 unfold cmpI;split
 ·simp_all
 ·split<;>simp_all
theorem cmpI_eq(x y:Int):cmpI x y=0↔x=y:=by
 unfold cmpI;split
 ·simp;omega
 ·split
  ·simp;omega
  ·simp;omega
def bsI{α:Type}(lt:α→Bool)(l:List α):Nat→Nat→Nat→Nat
 | 0,i,_=>i
 | f+1,i,j=>if i<j then(match l[(i+j) / 2]? with
  | some x=>if lt x=true then bsI lt l f ((i+j) / 2+1) j else bsI lt l f i ((i+j) / 2)
  | none=>i)else i
theorem bsI_fuel{α:Type}{lt:α→Bool}{l:List α}:∀{f g i j:Nat},j-i≤f→j-i≤g→bsI lt l f i j=bsI lt l g i j
 | 0,0,i,j,_,_=>rfl
 | 0,g+1,i,j,h,_=>by rw[bsI,bsI,if_neg (by omega)]
 | f+1,0,i,j,_,h=>by rw[bsI,bsI,if_neg (by omega)]
 | f+1,g+1,i,j,h,h'=>by
  rw[bsI,bsI]
  split
  ·split
   ·split
    ·exact bsI_fuel (by omega) (by omega)
    ·exact bsI_fuel (by omega) (by omega)
   ·rfl
  ·rfl
def bsP{α:Type}(lt:α→Bool)(l:List α):Nat:=bsI lt l l.length 0 l.length
def bsH{α:Type}(lt eq:α→Bool)(l:List α):Bool:=(l[bsP lt l]?).any eq
theorem bsI_spec{α:Type}{lt:α→Bool}{l:List α}(hm:∀(a b:Nat) x y,a<b→l[a]?=some x→l[b]?=some y→lt y=true→lt x=true):∀{f i j:Nat},j-i≤f→i≤j→j≤l.length →
  (∀k x,k<i→l[k]?=some x→lt x=true)→(∀k x,j≤k→l[k]?=some x→lt x=false)→(∀k x,k<bsI lt l f i j→l[k]?=some x→lt x=true)∧(∀k x,bsI lt l f i j≤k→l[k]?=some x→lt x=false)∧bsI lt l f i j≤l.length
 | 0,i,j,h,hij,hj,h1,h2=>by
  obtain rfl:i=j:=by omega
  rw[bsI];exact⟨h1,h2,hj⟩
 | f+1,i,j,h,hij,hj,h1,h2=>by
  rw[bsI]
  by_cases hlt:i<j
  ·have hx:=List.getElem?_eq_getElem (show(i+j) / 2<l.length by omega)
   generalize l[(i+j) / 2]=x at hx
   rw[if_pos hlt,hx]
   by_cases e:lt x=true
   ·simp only[e,if_true]
    refine bsI_spec hm (by omega) (by omega) hj (λk y hk hy=>?_) h2
    by_cases e':k=(i+j) / 2
    ·subst e';rw[hx]at hy;cases hy;exact e
    ·exact hm k _ y x (by omega) hy hx e
   ·simp only[e,if_false,Bool.false_eq_true]
    refine bsI_spec hm (by omega) (by omega) (by omega) h1 (λk y hk hy=>?_)
    by_cases e':k=(i+j) / 2
    ·subst e';rw[hx]at hy;cases hy;simpa using e
    ·cases q:lt y
     ·rfl
     ·exact absurd (hm _ k x y (by omega) hx hy q) e
  ·obtain rfl:i=j:=by omega
   rw[if_neg hlt];exact⟨h1,h2,hj⟩
theorem bsH_any{α:Type}{lt eq:α→Bool}{l:List α}(hm:∀(a b:Nat) x y,a<b→l[a]?=some x→l[b]?=some y→lt y=true→lt x=true)(he:∀x,eq x=true→lt x=false)
  (h2:∀(a b:Nat) x y,a<b→l[a]?=some x→l[b]?=some y→eq y=true→lt x=true):(bsH lt eq l=l.any eq)∧∀x∈l,eq x=true→l[bsP lt l]?=some x:=by
 obtain⟨s1,s2,s3⟩:=bsI_spec hm (f:=l.length) (i:=0) (j:=l.length) (by omega) (by omega) (Nat.le_refl _) (λk x hk=>by omega) (λk x hk hx=>by have:=lt_of_get hx;omega)
 have key:∀x∈l,eq x=true→l[bsP lt l]?=some x:=λx hx e=>by
  obtain⟨k,hk⟩:=List.mem_iff_getElem?.mp hx
  have h3:bsP lt l≤k:=Nat.le_of_not_lt λh=>by
   have:=s1 k x h hk;rw[he x e]at this;cases this
  by_cases e':bsP lt l=k
  ·rw[e'];exact hk
  ·have hl:=lt_of_get hk
   have hy:=List.getElem?_eq_getElem (show bsP lt l<l.length by omega)
   have a:=h2 _ k _ x (by omega) hy hk e
   have b:=s2 _ _ (Nat.le_refl _) hy
   rw[a]at b;cases b
 refine⟨?_,key⟩
 rw[Bool.eq_iff_iff,List.any_eq_true,bsH]
 constructor
 ·intro h
  cases q:l[bsP lt l]? with
  | none=>rw[q]at h;cases h
  | some x=>rw[q]at h;exact⟨x,List.mem_of_getElem? q,h⟩
 ·rintro⟨x,hx,e⟩
  rw[key x hx e];exact e
def inT(n a b:Int):Bool:=decide (a≤n) && decide (n≤b)
def inT_a(n:Int)(least:Int)(most:Int):Prop:=okL [.int n,.int least,.int most]
def inT_e(r:Bool):AV:=.bool r
def inT_x(n:Int)(least:Int)(most:Int):Ax Tryz.prog noS (Bool):=
 (.br 80 (decide (least≤n)) (.ret (decide (n≤most)))
(.ret (false)))
def inT_vc(n:Int)(least:Int)(most:Int)(r0:Bool):Prop:=(inT_x n least most).vp inT_e r0
theorem inT_p(n a b:Int)(ok:inT_a n a b):inT_vc n a b (inT n a b):=by
 dsimp only[inT_vc,inT_x,noS,Ax.vp,Ax.vc];simp only[vcU,rfU,List.length_map]
 unfold inT
 exact⟨λh=>by simp[h],λh=>by simp[h]⟩
def inT_c(n:Int)(least:Int)(most:Int):PC Tryz.prog:=⟨123,[.k,.k,.k],[.int n,.int least,.int most],inT_e (inT n least most),PSpec.of_ok λok=>mxP_of (sh:=.k) (enc:=inT_e) (a:=(inT_x n least most).an) (inT_p n least most ok) (by kernel_rfl) (AV.pureB_ok rfl),fnB_ok (by kernel_rfl)⟩
def byI(r:Rtr)(id:Int):Int:=cmpI r.id id
def byI_a(r:Rtr)(id:Int):Prop:=okL [.agg [.int r.id,.bool r.cap],.int id]
def byI_e(r:Int):AV:=.int r
def byI_x(r:Rtr)(id:Int):Ax Tryz.prog noS (Int):=
 (.callP (cmpI_c r.id id)
(.ret (cmpI r.id id)))
def byI_vc(r:Rtr)(id:Int)(r0:Int):Prop:=(byI_x r id).vp byI_e r0
theorem byI_p(r:Rtr)(id:Int)(ok:byI_a r id):byI_vc r id (byI r id):=by
 dsimp only[byI_vc,byI_x,noS,Ax.vp,Ax.vc];simp only[vcU,rfU,List.length_map]
 rfl
def byI_c(r:Rtr)(id:Int):PC Tryz.prog:=⟨167,[.k,.k],[.agg [.int r.id,.bool r.cap],.int id],byI_e (byI r id),PSpec.of_ok λok=>mxP_of (sh:=.k) (enc:=byI_e) (a:=(byI_x r id).an) (byI_p r id ok) (by kernel_rfl) (AV.pureB_ok rfl),fnB_ok (by kernel_rfl)⟩
def ltR(r:Int)(x:Rtr):Bool:=decide (x.id<r)
def eqR(r:Int)(x:Rtr):Bool:=x.id==r
def posR(l:List Rtr)(r:Int):Nat:=bsP (ltR r) l
def hitR(l:List Rtr)(r:Int):Bool:=bsH (ltR r) (eqR r) l
def bsR_a(x:(List Rtr))(target:Int):Prop:=okL [.sl 2 (x.map Rtr.v) false,.int target,.func 167 []]
def bsR_n0(x:(List Rtr))(target:Int)(t0:Int×Int):NF:=⟨[(0,.k,.sl 2 (x.map Rtr.v) false),(1,.k,.int target),(2,.k,.func 167 []),(8,.k,.int ((x.map Rtr.v).length:Int)),(9,.k,.int t0.1),(10,.k,.int t0.2)],[]⟩
@[reducible] def bsR_s:Nat→Type
 | 0=>Int×Int
 | _=>Unit
def bsR_e(r:Int×Bool):AV:=.tup [.int r.1,.bool r.2]
def bsR_x(x:(List Rtr))(target:Int)(I0:(Int×Int)→Prop)(m0:(Int×Int)→Nat):Ax Tryz.prog bsR_s (Int×Bool):=
 (.loop 0 (bsR_n0 x target) I0 m0 (0,((x.map Rtr.v).length:Int)) [] λ(t0:Int×Int) b0 =>
(.br 48 (decide (t0.1<t0.2)) (.elI 208 Rtr.v x (W (Int.fdiv (IntKind.u64.wrap (W (t0.1+t0.2))) 2)) λx1 =>
(.callP (byI_c x1 target)
(.br 288 (decide ((byI x1 target)<0)) (.bk 0 b0 (W ((W (Int.fdiv (IntKind.u64.wrap (W (t0.1+t0.2))) 2))+1),t0.2) [])
(.bk 0 b0 (t0.1,W (Int.fdiv (IntKind.u64.wrap (W (t0.1+t0.2))) 2)) []))))
(.br 128 (decide (t0.1<((x.map Rtr.v).length:Int))) (.elI 176 Rtr.v x t0.1 λx2 =>
(.callP (byI_c x2 target)
(.ret (t0.1,(byI x2 target)==0))))
(.ret (t0.1,false)))))
def bsR_vc(x:(List Rtr))(target:Int)(I0:(Int×Int)→Prop)(m0:(Int×Int)→Nat)(r0:Int×Bool):Prop:=(bsR_x x target I0 m0).vp bsR_e r0
theorem bsR_p(x:List Rtr)(r:Int)(hl:x.length≤1000000)(ok:bsR_a x r):∃I m,bsR_vc x r I m ((posR x r:Int),hitR x r):=by
  refine⟨λt=>∃i j:Nat,t=((i:Int),(j:Int))∧i≤j∧j≤x.length∧bsI (ltR r) x (j-i) i j=bsP (ltR r) x,λt=>(t.2-t.1).toNat,?_⟩
  simp only[bsR_a,okU,Blk.ok,plainV,List.length_map]at ok
  dsimp only[bsR_vc,bsR_x,bsR_s,Ax.vp,Ax.vc];simp only[vcU,rfU,List.length_map]
  refine⟨⟨0,x.length,rfl,by omega,by omega,rfl⟩,?_⟩
  rintro _ ⟨i,j,rfl,hij,hj,h1⟩
  refine⟨λh3=>?_,λh3=>?_⟩
  ·have h3:i<j:=by simpa using h3
   simp only[halfB i j hij (by omega),Int.toNat_natCast]
   obtain⟨d,hd⟩:∃d,j-i=d+1:=⟨j-i-1,by omega⟩
   rw[hd,bsI,if_pos h3]at h1
   refine⟨by omega,by omega,λy hy=>⟨λe=>?_,λe=>?_⟩⟩
   ·rw[hy]at h1
    simp only[show ltR r y=true from decide_eq_true ((cmpI_lt _ _).mp e),if_true]at h1
    rw[bsI_fuel (g:=j-((i+j) / 2+1)) (by omega) (by omega)]at h1
    rw[W_succ (n:=x.length) (by omega) (by omega)]
    exact⟨⟨_,_,rfl,by omega,hj,h1⟩,by omega⟩
   ·rw[hy]at h1
    simp only[show ltR r y=false from decide_eq_false (λq=>e ((cmpI_lt _ _).mpr q)),if_false,Bool.false_eq_true]at h1
    rw[bsI_fuel (g:=(i+j) / 2-i) (by omega) (by omega)]at h1
    exact⟨⟨_,_,rfl,by omega,by omega,h1⟩,by omega⟩
  ·have h3:i=j:=by simp at h3;omega
   subst h3
   rw[Nat.sub_self,bsI]at h1
   simp only[Int.toNat_natCast]
   refine⟨λh4=>⟨by omega,by omega,λy hy=>?_⟩,λh4=>?_⟩
   ·unfold posR hitR bsH
    rw[←h1,hy]
    refine congrArg _ ?_
    show decide _=eqR r y
    rw[Bool.eq_iff_iff,decide_eq_true_iff]
    simp[byI,cmpI_eq,eqR]
   ·unfold posR hitR bsH
    rw[←h1,List.getElem?_eq_none (by omega)];rfl
def bsR_c(x:(List Rtr))(target:Int)(hl:x.length≤1000000):PC Tryz.prog:=⟨166,[(.s 2),.k,.k],[.sl 2 (x.map Rtr.v) false,.int target,.func 167 []],bsR_e ((posR x target:Int),hitR x target),PSpec.of_ok λok=>(bsR_p x target hl ok).elim λI0 h=>h.elim λm0 h=>mxP_of (sh:=.k) (enc:=bsR_e) (a:=(bsR_x x target I0 m0).an) h (by kernel_rfl) (AV.pureB_ok rfl),fnB_ok (by kernel_rfl)⟩
def orN_a(vals:(List Int)):Prop:=okL [.sl 1 (vals.map AV.int) false]
def orN_n0(vals:(List Int))(t0:Int):NF:=⟨[(3,.k,.int 0),(6,.k,.sl 1 (vals.map AV.int) false),(7,.k,.int ((vals.map AV.int).length:Int)),(8,.k,.int t0)],[]⟩
@[reducible] def orN_s:Nat→Type
 | 0=>Int
 | _=>Unit
def orN_e(r:Int):AV:=.int r
def orN_x(vals:(List Int))(I0:Int→Prop)(m0:Int→Nat):Ax Tryz.prog orN_s (Int):=
 (.loop 0 (orN_n0 vals) I0 m0 ((0):Int) [] λ(t0:Int) b0 =>
(.br 16 (decide (t0<((vals.map AV.int).length:Int))) (.elI 16 AV.int vals t0 λx1 =>
(.br 112 (x1 != 0) (.ret (x1))
(.bk 0 b0 ((W (t0+1)):Int) [])))
(.ret (0))))
def orN_vc(vals:(List Int))(I0:Int→Prop)(m0:Int→Nat)(r0:Int):Prop:=(orN_x vals I0 m0).vp orN_e r0
theorem orN_p(vals:List Int)(ok:orN_a vals):∃I m,orN_vc vals I m (orI vals):=by
 simp only[orN_a,okU,Blk.ok,plainV,List.length_map]at ok
 refine⟨λt=>∃k:Nat,t=k∧k≤vals.length∧(vals.take k).all (·==0),λt=>vals.length-t.toNat,?_⟩
 dsimp only[orN_vc,orN_x,orN_s,Ax.vp,Ax.vc];simp only[vcU,rfU,List.length_map]
 refine⟨⟨0,rfl,by omega,by simp⟩,?_⟩
 rintro _ ⟨k,rfl,hk,h⟩
 refine⟨λh1=>⟨by omega,by omega,λx hx=>⟨λhn=>?_,λhn=>?_⟩⟩,λh1=>?_⟩
 ·rw[Int.toNat_natCast]at hx
  rw[orI,find_take h hx (by simpa using hn)];rfl
 ·rw[Int.toNat_natCast]at hx
  have hlt:=lt_of_get hx
  rw[W_succ (n:=vals.length) (by omega) (by omega)]
  refine⟨⟨k+1,rfl,by omega,?_⟩,by omega⟩
  rw[take_succ hx,List.all_append,h];simpa using hn
 ·rw[List.take_of_length_le (by omega)]at h
  rw[orI,List.find?_eq_none.mpr]
  ·rfl
  ·intro x hx;simpa using List.all_eq_true.mp h x hx
def orN_c(vals:(List Int)):PC Tryz.prog:=⟨150,[(.s 1)],[.sl 1 (vals.map AV.int) false],orN_e (orI vals),PSpec.of_ok λok=>(orN_p vals ok).elim λI0 h=>h.elim λm0 h=>mxP_of (sh:=.k) (enc:=orN_e) (a:=(orN_x vals I0 m0).an) h (by kernel_rfl) (AV.pureB_ok rfl),fnB_ok (by kernel_rfl)⟩
def cmpL(x y:Lnk):Int:=orI [cmpI x.a y.a,cmpI x.b y.b]
def cmpL_a(a:Lnk)(b:Lnk):Prop:=okL [.agg [.int a.a,.int a.b,.int a.ca,.int a.cb,.int a.w],.agg [.int b.a,.int b.b,.int b.ca,.int b.cb,.int b.w]]
def cmpL_e(r:Int):AV:=.int r
def cmpL_x(a:Lnk)(b:Lnk):Ax Tryz.prog noS (Int):=
 (.callP (cmpI_c a.a b.a)
(.callP (cmpI_c a.b b.b)
(.callP (orN_c [cmpI a.a b.a,cmpI a.b b.b])
(.ret (orI [cmpI a.a b.a,cmpI a.b b.b])))))
def cmpL_vc(a:Lnk)(b:Lnk)(r0:Int):Prop:=(cmpL_x a b).vp cmpL_e r0
theorem cmpL_p(x y:Lnk)(ok:cmpL_a x y):cmpL_vc x y (cmpL x y):=by
 dsimp only[cmpL_vc,cmpL_x,noS,Ax.vp,Ax.vc];simp only[vcU,rfU,List.length_map]
 rfl
def cmpL_c(a:Lnk)(b:Lnk):PC Tryz.prog:=⟨121,[.k,.k],[.agg [.int a.a,.int a.b,.int a.ca,.int a.cb,.int a.w],.agg [.int b.a,.int b.b,.int b.ca,.int b.cb,.int b.w]],cmpL_e (cmpL a b),PSpec.of_ok λok=>mxP_of (sh:=.k) (enc:=cmpL_e) (a:=(cmpL_x a b).an) (cmpL_p a b ok) (by kernel_rfl) (AV.pureB_ok rfl),fnB_ok (by kernel_rfl)⟩
theorem cmpL_val(x y:Lnk):cmpL x y=if x.a=y.a then cmpI x.b y.b else cmpI x.a y.a:=by
 unfold cmpL orI
 by_cases e:x.a=y.a
 ·rw[if_pos e,(cmpI_eq _ _).mpr e]
  by_cases e2:cmpI x.b y.b=0
  ·simp[e2]
  ·simp[e2]
 ·have:cmpI x.a y.a≠0:=λh=>e ((cmpI_eq _ _).mp h)
  rw[if_neg e];simp[this]
theorem cmpL_lt(x y:Lnk):cmpL x y<0↔lnkL x y:=by
 rw[cmpL_val];unfold lnkL
 split
 ·rw[cmpI_lt];omega
 ·rw[cmpI_lt];omega
theorem cmpL_eq(x y:Lnk):cmpL x y=0↔x.a=y.a∧x.b=y.b:=by
 rw[cmpL_val]
 split
 ·rw[cmpI_eq];omega
 ·rw[cmpI_eq];omega
def ltLk(y x:Lnk):Bool:=decide (lnkL x y)
def eqLk(y x:Lnk):Bool:=decide (x.a=y.a∧x.b=y.b)
def posL(l:List Lnk)(y:Lnk):Nat:=bsP (ltLk y) l
def hitL(l:List Lnk)(y:Lnk):Bool:=bsH (ltLk y) (eqLk y) l
def bsL_a(x:(List Lnk))(target:Lnk):Prop:=okL [.sl 5 (x.map Lnk.v) false,.agg [.int target.a,.int target.b,.int target.ca,.int target.cb,.int target.w],.func 121 []]
def bsL_n0(x:(List Lnk))(target:Lnk)(t0:Int×Int):NF:=⟨[(0,.k,.sl 5 (x.map Lnk.v) false),(2,.k,.func 121 []),(4,.k,.ref 0 0),(8,.k,.int ((x.map Lnk.v).length:Int)),(9,.k,.int t0.1),(10,.k,.int t0.2)],[.box (.agg [.int target.a,.int target.b,.int target.ca,.int target.cb,.int target.w])]⟩
@[reducible] def bsL_s:Nat→Type
 | 0=>Int×Int
 | _=>Unit
def bsL_e(r:Int×Bool):AV:=.tup [.int r.1,.bool r.2]
def bsL_x(x:(List Lnk))(target:Lnk)(I0:(Int×Int)→Prop)(m0:(Int×Int)→Nat):Ax Tryz.prog bsL_s (Int×Bool):=
 (.loop 0 (bsL_n0 x target) I0 m0 (0,((x.map Lnk.v).length:Int)) [0] λ(t0:Int×Int) b0 =>
(.br 49 (decide (t0.1<t0.2)) (.elI 209 Lnk.v x (W (Int.fdiv (IntKind.u64.wrap (W (t0.1+t0.2))) 2)) λx1 =>
(.callP (cmpL_c x1 target)
(.br 289 (decide ((cmpL x1 target)<0)) (.bk 0 b0 (W ((W (Int.fdiv (IntKind.u64.wrap (W (t0.1+t0.2))) 2))+1),t0.2) [0])
(.bk 0 b0 (t0.1,W (Int.fdiv (IntKind.u64.wrap (W (t0.1+t0.2))) 2)) [0]))))
(.br 129 (decide (t0.1<((x.map Lnk.v).length:Int))) (.elI 177 Lnk.v x t0.1 λx2 =>
(.callP (cmpL_c x2 target)
(.ret (t0.1,(cmpL x2 target)==0))))
(.ret (t0.1,false)))))
def bsL_vc(x:(List Lnk))(target:Lnk)(I0:(Int×Int)→Prop)(m0:(Int×Int)→Nat)(r0:Int×Bool):Prop:=(bsL_x x target I0 m0).vp bsL_e r0
theorem bsL_p(x:List Lnk)(r:Lnk)(hl:x.length≤1000000)(ok:bsL_a x r):∃I m,bsL_vc x r I m ((posL x r:Int),hitL x r):=by
  refine⟨λt=>∃i j:Nat,t=((i:Int),(j:Int))∧i≤j∧j≤x.length∧bsI (ltLk r) x (j-i) i j=bsP (ltLk r) x,λt=>(t.2-t.1).toNat,?_⟩
  simp only[bsL_a,okU,Blk.ok,plainV,List.length_map]at ok
  dsimp only[bsL_vc,bsL_x,bsL_s,Ax.vp,Ax.vc];simp only[vcU,rfU,List.length_map]
  refine⟨⟨0,x.length,rfl,by omega,by omega,rfl⟩,?_⟩
  rintro _ ⟨i,j,rfl,hij,hj,h1⟩
  refine⟨λh3=>?_,λh3=>?_⟩
  ·have h3:i<j:=by simpa using h3
   simp only[halfB i j hij (by omega),Int.toNat_natCast]
   obtain⟨d,hd⟩:∃d,j-i=d+1:=⟨j-i-1,by omega⟩
   rw[hd,bsI,if_pos h3]at h1
   refine⟨by omega,by omega,λy hy=>⟨λe=>?_,λe=>?_⟩⟩
   ·rw[hy]at h1
    simp only[show ltLk r y=true from decide_eq_true ((cmpL_lt _ _).mp e),if_true]at h1
    rw[bsI_fuel (g:=j-((i+j) / 2+1)) (by omega) (by omega)]at h1
    rw[W_succ (n:=x.length) (by omega) (by omega)]
    exact⟨⟨_,_,rfl,by omega,hj,h1⟩,by omega⟩
   ·rw[hy]at h1
    simp only[show ltLk r y=false from decide_eq_false (λq=>e ((cmpL_lt _ _).mpr q)),if_false,Bool.false_eq_true]at h1
    rw[bsI_fuel (g:=(i+j) / 2-i) (by omega) (by omega)]at h1
    exact⟨⟨_,_,rfl,by omega,by omega,h1⟩,by omega⟩
  ·have h3:i=j:=by simp at h3;omega
   subst h3
   rw[Nat.sub_self,bsI]at h1
   simp only[Int.toNat_natCast]
   refine⟨λh4=>⟨by omega,by omega,λy hy=>?_⟩,λh4=>?_⟩
   ·unfold posL hitL bsH
    rw[←h1,hy]
    refine congrArg _ ?_
    show decide _=eqLk r y
    rw[Bool.eq_iff_iff,decide_eq_true_iff]
    simp[cmpL_eq,eqLk]
   ·unfold posL hitL bsH
    rw[←h1,List.getElem?_eq_none (by omega)];rfl
def bsL_c(x:(List Lnk))(target:Lnk)(hl:x.length≤1000000):PC Tryz.prog:=⟨120,[(.s 5),.k,.k],[.sl 5 (x.map Lnk.v) false,.agg [.int target.a,.int target.b,.int target.ca,.int target.cb,.int target.w],.func 121 []],bsL_e ((posL x target:Int),hitL x target),PSpec.of_ok λok=>(bsL_p x target hl ok).elim λI0 h=>h.elim λm0 h=>mxP_of (sh:=.k) (enc:=bsL_e) (a:=(bsL_x x target I0 m0).an) h (by kernel_rfl) (AV.pureB_ok rfl),fnB_ok (by kernel_rfl)⟩
def rngB(r:Rtr):Bool:=!inT r.id 1 99
def rngB_a(r:Rtr):Prop:=okL [.agg [.int r.id,.bool r.cap]]
def rngB_e(r:Bool):AV:=.bool r
def rngB_x(r:Rtr):Ax Tryz.prog noS (Bool):=
 (.callP (inT_c r.id 1 99)
(.ret (!(inT r.id 1 99))))
def rngB_vc(r:Rtr)(r0:Bool):Prop:=(rngB_x r).vp rngB_e r0
theorem rngB_p(r:Rtr)(ok:rngB_a r):rngB_vc r (rngB r):=by
 dsimp only[rngB_vc,rngB_x,noS,Ax.vp,Ax.vc];simp only[vcU,rfU,List.length_map]
 rfl
def rngB_c(r:Rtr):PC Tryz.prog:=⟨164,[.k],[.agg [.int r.id,.bool r.cap]],rngB_e (rngB r),PSpec.of_ok λok=>mxP_of (sh:=.k) (enc:=rngB_e) (a:=(rngB_x r).an) (rngB_p r ok) (by kernel_rfl) (AV.pureB_ok rfl),fnB_ok (by kernel_rfl)⟩
def cstB(l:Lnk):Bool:=!inT l.ca 1 1000 || (!inT l.cb 1 1000 || !inT l.w 0 1000)
def cstB_a(l:Lnk):Prop:=okL [.agg [.int l.a,.int l.b,.int l.ca,.int l.cb,.int l.w]]
def cstB_e(r:Bool):AV:=.bool r
def cstB_x(l:Lnk):Ax Tryz.prog noS (Bool):=
 (.callP (inT_c l.ca 1 1000)
(.br 112 (!(inT l.ca 1 1000)) (.ret (true))
(.callP (inT_c l.cb 1 1000)
(.br 208 (!(inT l.cb 1 1000)) (.ret (true))
(.callP (inT_c l.w 0 1000)
(.ret (!(inT l.w 0 1000))))))))
def cstB_vc(l:Lnk)(r0:Bool):Prop:=(cstB_x l).vp cstB_e r0
theorem cstB_p(l:Lnk)(ok:cstB_a l):cstB_vc l (cstB l):=by
 dsimp only[cstB_vc,cstB_x,noS,Ax.vp,Ax.vc];simp only[vcU,rfU,List.length_map]
 unfold cstB
 exact⟨λh=>by rw[h];rfl,λh=>⟨λh2=>by rw[h,h2];rfl,λh2=>by rw[h,h2];rfl⟩⟩
def cstB_c(l:Lnk):PC Tryz.prog:=⟨169,[.k],[.agg [.int l.a,.int l.b,.int l.ca,.int l.cb,.int l.w]],cstB_e (cstB l),PSpec.of_ok λok=>mxP_of (sh:=.k) (enc:=cstB_e) (a:=(cstB_x l).an) (cstB_p l ok) (by kernel_rfl) (AV.pureB_ok rfl),fnB_ok (by kernel_rfl)⟩
def aleB(l:Lnk):Bool:=decide (l.b≤l.a)
def aleB_a(l:Lnk):Prop:=okL [.agg [.int l.a,.int l.b,.int l.ca,.int l.cb,.int l.w]]
def aleB_e(r:Bool):AV:=.bool r
def aleB_x(l:Lnk):Ax Tryz.prog noS (Bool):=
 (.ret (decide (l.b≤l.a)))
def aleB_vc(l:Lnk)(r0:Bool):Prop:=(aleB_x l).vp aleB_e r0
theorem aleB_p(l:Lnk)(ok:aleB_a l):aleB_vc l (aleB l):=by
 dsimp only[aleB_vc,aleB_x,noS,Ax.vp,Ax.vc];simp only[vcU,rfU,List.length_map]
 rfl
def aleB_c(l:Lnk):PC Tryz.prog:=⟨171,[.k],[.agg [.int l.a,.int l.b,.int l.ca,.int l.cb,.int l.w]],aleB_e (aleB l),PSpec.of_ok λok=>mxP_of (sh:=.k) (enc:=aleB_e) (a:=(aleB_x l).an) (aleB_p l ok) (by kernel_rfl) (AV.pureB_ok rfl),fnB_ok (by kernel_rfl)⟩
def unkB(id:Int)(t:Tpl):Bool:=!hitR t.rs id
def unkB_a(id:Int)(t:Tpl):Prop:=okL [.int id,.rptr (.agg [.sl 2 (t.rs.map Rtr.v) false,.sl 5 (t.ls.map Lnk.v) false]) 0]
def unkB_e(r:Bool):AV:=.bool r
def unkB_x(id:Int)(t:Tpl):Ax Tryz.prog noS (Bool):=
 (.req 64 (t.rs.length≤1000000) λh1 =>
(.callP (bsR_c t.rs id h1)
(.ret (!(hitR t.rs id)))))
def unkB_vc(id:Int)(t:Tpl)(r0:Bool):Prop:=(unkB_x id t).vp unkB_e r0
theorem unkB_p(id:Int)(t:Tpl)(hl:t.rs.length≤1000000)(ok:unkB_a id t):unkB_vc id t (unkB id t):=by
 dsimp only[unkB_vc,unkB_x,noS,Ax.vp,Ax.vc];simp only[vcU,rfU,List.length_map]
 exact⟨hl,rfl⟩
def unkB_c(id:Int)(t:Tpl)(hl:t.rs.length≤1000000):PC Tryz.prog:=⟨165,[.k,.k],[.int id,.rptr (.agg [.sl 2 (t.rs.map Rtr.v) false,.sl 5 (t.ls.map Lnk.v) false]) 0],unkB_e (unkB id t),PSpec.of_ok λok=>mxP_of (sh:=.k) (enc:=unkB_e) (a:=(unkB_x id t).an) (unkB_p id t hl ok) (by kernel_rfl) (AV.pureB_ok rfl),fnB_ok (by kernel_rfl)⟩
def unkL(l:Lnk)(t:Tpl):Bool:=unkB l.a t || unkB l.b t
def unkL_a(l:Lnk)(t:Tpl):Prop:=okL [.agg [.int l.a,.int l.b,.int l.ca,.int l.cb,.int l.w],.rptr (.func 165 [.rptr (.agg [.sl 2 (t.rs.map Rtr.v) false,.sl 5 (t.ls.map Lnk.v) false]) 0]) 0]
def unkL_e(r:Bool):AV:=.bool r
def unkL_x(l:Lnk)(t:Tpl):Ax Tryz.prog noS (Bool):=
 (.req 80 (t.rs.length≤1000000) λh1 =>
(.callP (unkB_c l.a t h1)
(.br 112 (unkB l.a t) (.ret (true))
(.req 160 (t.rs.length≤1000000) λh2 =>
(.callP (unkB_c l.b t h2)
(.ret (unkB l.b t)))))))
def unkL_vc(l:Lnk)(t:Tpl)(r0:Bool):Prop:=(unkL_x l t).vp unkL_e r0
theorem unkL_p(l:Lnk)(t:Tpl)(hl:t.rs.length≤1000000)(ok:unkL_a l t):unkL_vc l t (unkL l t):=by
 dsimp only[unkL_vc,unkL_x,noS,Ax.vp,Ax.vc];simp only[vcU,rfU,List.length_map]
 exact⟨hl,λh=>by unfold unkL;rw[h];rfl,λh=>⟨hl,by unfold unkL;rw[h];rfl⟩⟩
def unkL_c(l:Lnk)(t:Tpl)(hl:t.rs.length≤1000000):PC Tryz.prog:=⟨170,[.k,.k],[.agg [.int l.a,.int l.b,.int l.ca,.int l.cb,.int l.w],.rptr (.func 165 [.rptr (.agg [.sl 2 (t.rs.map Rtr.v) false,.sl 5 (t.ls.map Lnk.v) false]) 0]) 0],unkL_e (unkL l t),PSpec.of_ok λok=>mxP_of (sh:=.k) (enc:=unkL_e) (a:=(unkL_x l t).an) (unkL_p l t hl ok) (by kernel_rfl) (AV.pureB_ok rfl),fnB_ok (by kernel_rfl)⟩
def rngBI_a(s:(List Rtr)):Prop:=okL [.sl 2 (s.map Rtr.v) false,.func 164 []]
def rngBI_n0(s:(List Rtr))(t0:Int):NF:=⟨[(0,.k,.sl 2 (s.map Rtr.v) false),(1,.k,.func 164 []),(7,.k,.int ((s.map Rtr.v).length:Int)),(8,.k,.int t0)],[]⟩
@[reducible] def rngBI_s:Nat→Type
 | 0=>Int
 | _=>Unit
def rngBI_e(r:Int):AV:=.int r
def rngBI_x(s:(List Rtr))(I0:Int→Prop)(m0:Int→Nat):Ax Tryz.prog rngBI_s (Int):=
 (.loop 0 (rngBI_n0 s) I0 m0 ((0):Int) [] λ(t0:Int) b0 =>
(.br 16 (decide (t0<((s.map Rtr.v).length:Int))) (.elI 96 Rtr.v s t0 λx1 =>
(.callP (rngB_c x1)
(.br 144 (rngB x1) (.ret (t0))
(.bk 0 b0 ((W (t0+1)):Int) []))))
(.ret (-1))))
def rngBI_vc(s:(List Rtr))(I0:Int→Prop)(m0:Int→Nat)(r0:Int):Prop:=(rngBI_x s I0 m0).vp rngBI_e r0
theorem rngBI_p(s:List Rtr)(ok:rngBI_a s):∃I m,rngBI_vc s I m (idxF rngB s):=by
  refine⟨λt=>ForI s (λy=>rngB y=false) t,λt=>s.length-t.toNat,?_⟩
  simp only[rngBI_a,okU,Blk.ok,plainV,List.length_map]at ok
  dsimp only[rngBI_vc,rngBI_x,rngBI_s,Ax.vp,Ax.vc];simp only[vcU,rfU,List.length_map]
  exact⟨ForI.zero,λt h=>⟨λc=>⟨h.idx,c,λx hx=>⟨λq=>h.found hx q,λq=>h.step (by omega) hx q⟩⟩,λc=>h.lost c⟩⟩
def rngBI_c(s:(List Rtr)):PC Tryz.prog:=⟨177,[(.s 2),.k],[.sl 2 (s.map Rtr.v) false,.func 164 []],rngBI_e (idxF rngB s),PSpec.of_ok λok=>(rngBI_p s ok).elim λI0 h=>h.elim λm0 h=>mxP_of (sh:=.k) (enc:=rngBI_e) (a:=(rngBI_x s I0 m0).an) h (by kernel_rfl) (AV.pureB_ok rfl),fnB_ok (by kernel_rfl)⟩
def rngBA_a(s:(List Rtr)):Prop:=okL [.sl 2 (s.map Rtr.v) false,.func 164 []]
def rngBA_e(r:Bool):AV:=.bool r
def rngBA_x(s:(List Rtr)):Ax Tryz.prog noS (Bool):=
 (.callP (rngBI_c s)
(.ret (decide (0≤(idxF rngB s)))))
def rngBA_vc(s:(List Rtr))(r0:Bool):Prop:=(rngBA_x s).vp rngBA_e r0
theorem rngBA_p(s:List Rtr)(ok:rngBA_a s):rngBA_vc s (s.any rngB):=by
 dsimp only[rngBA_vc,rngBA_x,noS,Ax.vp,Ax.vc];simp only[vcU,rfU,List.length_map]
 exact idxF_any _ _
def rngBA_c(s:(List Rtr)):PC Tryz.prog:=⟨163,[(.s 2),.k],[.sl 2 (s.map Rtr.v) false,.func 164 []],rngBA_e (s.any rngB),PSpec.of_ok λok=>mxP_of (sh:=.k) (enc:=rngBA_e) (a:=(rngBA_x s).an) (rngBA_p s ok) (by kernel_rfl) (AV.pureB_ok rfl),fnB_ok (by kernel_rfl)⟩
def cstBI_a(s:(List Lnk)):Prop:=okL [.sl 5 (s.map Lnk.v) false,.func 169 []]
def cstBI_n0(s:(List Lnk))(t0:Int):NF:=⟨[(0,.k,.sl 5 (s.map Lnk.v) false),(1,.k,.func 169 []),(7,.k,.int ((s.map Lnk.v).length:Int)),(8,.k,.int t0)],[]⟩
@[reducible] def cstBI_s:Nat→Type
 | 0=>Int
 | _=>Unit
def cstBI_e(r:Int):AV:=.int r
def cstBI_x(s:(List Lnk))(I0:Int→Prop)(m0:Int→Nat):Ax Tryz.prog cstBI_s (Int):=
 (.loop 0 (cstBI_n0 s) I0 m0 ((0):Int) [] λ(t0:Int) b0 =>
(.br 16 (decide (t0<((s.map Lnk.v).length:Int))) (.elI 96 Lnk.v s t0 λx1 =>
(.callP (cstB_c x1)
(.br 144 (cstB x1) (.ret (t0))
(.bk 0 b0 ((W (t0+1)):Int) []))))
(.ret (-1))))
def cstBI_vc(s:(List Lnk))(I0:Int→Prop)(m0:Int→Nat)(r0:Int):Prop:=(cstBI_x s I0 m0).vp cstBI_e r0
theorem cstBI_p(s:List Lnk)(ok:cstBI_a s):∃I m,cstBI_vc s I m (idxF cstB s):=by
  refine⟨λt=>ForI s (λy=>cstB y=false) t,λt=>s.length-t.toNat,?_⟩
  simp only[cstBI_a,okU,Blk.ok,plainV,List.length_map]at ok
  dsimp only[cstBI_vc,cstBI_x,cstBI_s,Ax.vp,Ax.vc];simp only[vcU,rfU,List.length_map]
  exact⟨ForI.zero,λt h=>⟨λc=>⟨h.idx,c,λx hx=>⟨λq=>h.found hx q,λq=>h.step (by omega) hx q⟩⟩,λc=>h.lost c⟩⟩
def cstBI_c(s:(List Lnk)):PC Tryz.prog:=⟨178,[(.s 5),.k],[.sl 5 (s.map Lnk.v) false,.func 169 []],cstBI_e (idxF cstB s),PSpec.of_ok λok=>(cstBI_p s ok).elim λI0 h=>h.elim λm0 h=>mxP_of (sh:=.k) (enc:=cstBI_e) (a:=(cstBI_x s I0 m0).an) h (by kernel_rfl) (AV.pureB_ok rfl),fnB_ok (by kernel_rfl)⟩
def cstBA_a(s:(List Lnk)):Prop:=okL [.sl 5 (s.map Lnk.v) false,.func 169 []]
def cstBA_e(r:Bool):AV:=.bool r
def cstBA_x(s:(List Lnk)):Ax Tryz.prog noS (Bool):=
 (.callP (cstBI_c s)
(.ret (decide (0≤(idxF cstB s)))))
def cstBA_vc(s:(List Lnk))(r0:Bool):Prop:=(cstBA_x s).vp cstBA_e r0
theorem cstBA_p(s:List Lnk)(ok:cstBA_a s):cstBA_vc s (s.any cstB):=by
 dsimp only[cstBA_vc,cstBA_x,noS,Ax.vp,Ax.vc];simp only[vcU,rfU,List.length_map]
 exact idxF_any _ _
def cstBA_c(s:(List Lnk)):PC Tryz.prog:=⟨168,[(.s 5),.k],[.sl 5 (s.map Lnk.v) false,.func 169 []],cstBA_e (s.any cstB),PSpec.of_ok λok=>mxP_of (sh:=.k) (enc:=cstBA_e) (a:=(cstBA_x s).an) (cstBA_p s ok) (by kernel_rfl) (AV.pureB_ok rfl),fnB_ok (by kernel_rfl)⟩
def aleBI_a(s:(List Lnk)):Prop:=okL [.sl 5 (s.map Lnk.v) false,.func 171 []]
def aleBI_n0(s:(List Lnk))(t0:Int):NF:=⟨[(0,.k,.sl 5 (s.map Lnk.v) false),(1,.k,.func 171 []),(7,.k,.int ((s.map Lnk.v).length:Int)),(8,.k,.int t0)],[]⟩
@[reducible] def aleBI_s:Nat→Type
 | 0=>Int
 | _=>Unit
def aleBI_e(r:Int):AV:=.int r
def aleBI_x(s:(List Lnk))(I0:Int→Prop)(m0:Int→Nat):Ax Tryz.prog aleBI_s (Int):=
 (.loop 0 (aleBI_n0 s) I0 m0 ((0):Int) [] λ(t0:Int) b0 =>
(.br 16 (decide (t0<((s.map Lnk.v).length:Int))) (.elI 96 Lnk.v s t0 λx1 =>
(.callP (aleB_c x1)
(.br 144 (aleB x1) (.ret (t0))
(.bk 0 b0 ((W (t0+1)):Int) []))))
(.ret (-1))))
def aleBI_vc(s:(List Lnk))(I0:Int→Prop)(m0:Int→Nat)(r0:Int):Prop:=(aleBI_x s I0 m0).vp aleBI_e r0
theorem aleBI_p(s:List Lnk)(ok:aleBI_a s):∃I m,aleBI_vc s I m (idxF aleB s):=by
  refine⟨λt=>ForI s (λy=>aleB y=false) t,λt=>s.length-t.toNat,?_⟩
  simp only[aleBI_a,okU,Blk.ok,plainV,List.length_map]at ok
  dsimp only[aleBI_vc,aleBI_x,aleBI_s,Ax.vp,Ax.vc];simp only[vcU,rfU,List.length_map]
  exact⟨ForI.zero,λt h=>⟨λc=>⟨h.idx,c,λx hx=>⟨λq=>h.found hx q,λq=>h.step (by omega) hx q⟩⟩,λc=>h.lost c⟩⟩
def aleBI_c(s:(List Lnk)):PC Tryz.prog:=⟨178,[(.s 5),.k],[.sl 5 (s.map Lnk.v) false,.func 171 []],aleBI_e (idxF aleB s),PSpec.of_ok λok=>(aleBI_p s ok).elim λI0 h=>h.elim λm0 h=>mxP_of (sh:=.k) (enc:=aleBI_e) (a:=(aleBI_x s I0 m0).an) h (by kernel_rfl) (AV.pureB_ok rfl),fnB_ok (by kernel_rfl)⟩
def aleBA_a(s:(List Lnk)):Prop:=okL [.sl 5 (s.map Lnk.v) false,.func 171 []]
def aleBA_e(r:Bool):AV:=.bool r
def aleBA_x(s:(List Lnk)):Ax Tryz.prog noS (Bool):=
 (.callP (aleBI_c s)
(.ret (decide (0≤(idxF aleB s)))))
def aleBA_vc(s:(List Lnk))(r0:Bool):Prop:=(aleBA_x s).vp aleBA_e r0
theorem aleBA_p(s:List Lnk)(ok:aleBA_a s):aleBA_vc s (s.any aleB):=by
 dsimp only[aleBA_vc,aleBA_x,noS,Ax.vp,Ax.vc];simp only[vcU,rfU,List.length_map]
 exact idxF_any _ _
def aleBA_c(s:(List Lnk)):PC Tryz.prog:=⟨168,[(.s 5),.k],[.sl 5 (s.map Lnk.v) false,.func 171 []],aleBA_e (s.any aleB),PSpec.of_ok λok=>mxP_of (sh:=.k) (enc:=aleBA_e) (a:=(aleBA_x s).an) (aleBA_p s ok) (by kernel_rfl) (AV.pureB_ok rfl),fnB_ok (by kernel_rfl)⟩
def unkLI_a(s:(List Lnk))(f:Tpl):Prop:=okL [.sl 5 (s.map Lnk.v) false,.func 170 [.rptr (.func 165 [.rptr (.agg [.sl 2 (f.rs.map Rtr.v) false,.sl 5 (f.ls.map Lnk.v) false]) 0]) 0]]
def unkLI_n0(s:(List Lnk))(f:Tpl)(t0:Int):NF:=⟨[(0,.k,.sl 5 (s.map Lnk.v) false),(1,.k,.func 170 [.rptr (.func 165 [.rptr (.agg [.sl 2 (f.rs.map Rtr.v) false,.sl 5 (f.ls.map Lnk.v) false]) 0]) 0]),(7,.k,.int ((s.map Lnk.v).length:Int)),(8,.k,.int t0)],[]⟩
@[reducible] def unkLI_s:Nat→Type
 | 0=>Int
 | _=>Unit
def unkLI_e(r:Int):AV:=.int r
def unkLI_x(s:(List Lnk))(f:Tpl)(I0:Int→Prop)(m0:Int→Nat):Ax Tryz.prog unkLI_s (Int):=
 (.loop 0 (unkLI_n0 s f) I0 m0 ((0):Int) [] λ(t0:Int) b0 =>
(.br 16 (decide (t0<((s.map Lnk.v).length:Int))) (.elI 96 Lnk.v s t0 λx1 =>
(.req 128 (f.rs.length≤1000000) λh2 =>
(.callP (unkL_c x1 f h2)
(.br 144 (unkL x1 f) (.ret (t0))
(.bk 0 b0 ((W (t0+1)):Int) [])))))
(.ret (-1))))
def unkLI_vc(s:(List Lnk))(f:Tpl)(I0:Int→Prop)(m0:Int→Nat)(r0:Int):Prop:=(unkLI_x s f I0 m0).vp unkLI_e r0
theorem unkLI_p(s:List Lnk)(t:Tpl)(hl:t.rs.length≤1000000)(ok:unkLI_a s t):∃I m,unkLI_vc s t I m (idxF (λy=>unkL y t) s):=by
 refine⟨λi=>ForI s (λy=>unkL y t=false) i,λi=>s.length-i.toNat,?_⟩
 simp only[unkLI_a,okU,Blk.ok,plainV,List.length_map]at ok
 dsimp only[unkLI_vc,unkLI_x,unkLI_s,Ax.vp,Ax.vc];simp only[vcU,rfU,List.length_map]
 exact⟨ForI.zero,λi h=>⟨λc=>⟨h.idx,c,λx hx=>⟨hl,λq=>h.found hx q,λq=>h.step (by omega) hx q⟩⟩,λc=>h.lost c⟩⟩
def unkLI_c(s:(List Lnk))(f:Tpl)(hl:f.rs.length≤1000000):PC Tryz.prog:=⟨178,[(.s 5),.k],[.sl 5 (s.map Lnk.v) false,.func 170 [.rptr (.func 165 [.rptr (.agg [.sl 2 (f.rs.map Rtr.v) false,.sl 5 (f.ls.map Lnk.v) false]) 0]) 0]],unkLI_e (idxF (λy=>unkL y f) s),PSpec.of_ok λok=>(unkLI_p s f hl ok).elim λI0 h=>h.elim λm0 h=>mxP_of (sh:=.k) (enc:=unkLI_e) (a:=(unkLI_x s f I0 m0).an) h (by kernel_rfl) (AV.pureB_ok rfl),fnB_ok (by kernel_rfl)⟩
def unkLA_a(s:(List Lnk))(f:Tpl):Prop:=okL [.sl 5 (s.map Lnk.v) false,.func 170 [.rptr (.func 165 [.rptr (.agg [.sl 2 (f.rs.map Rtr.v) false,.sl 5 (f.ls.map Lnk.v) false]) 0]) 0]]
def unkLA_e(r:Bool):AV:=.bool r
def unkLA_x(s:(List Lnk))(f:Tpl):Ax Tryz.prog noS (Bool):=
 (.req 48 (f.rs.length≤1000000) λh1 =>
(.callP (unkLI_c s f h1)
(.ret (decide (0≤(idxF (λy=>unkL y f) s))))))
def unkLA_vc(s:(List Lnk))(f:Tpl)(r0:Bool):Prop:=(unkLA_x s f).vp unkLA_e r0
theorem unkLA_p(s:List Lnk)(t:Tpl)(hl:t.rs.length≤1000000)(ok:unkLA_a s t):unkLA_vc s t (s.any λy=>unkL y t):=by
 dsimp only[unkLA_vc,unkLA_x,noS,Ax.vp,Ax.vc];simp only[vcU,rfU,List.length_map]
 exact⟨hl,idxF_any _ _⟩
def unkLA_c(s:(List Lnk))(f:Tpl)(hl:f.rs.length≤1000000):PC Tryz.prog:=⟨168,[(.s 5),.k],[.sl 5 (s.map Lnk.v) false,.func 170 [.rptr (.func 165 [.rptr (.agg [.sl 2 (f.rs.map Rtr.v) false,.sl 5 (f.ls.map Lnk.v) false]) 0]) 0]],unkLA_e (s.any λy=>unkL y f),PSpec.of_ok λok=>mxP_of (sh:=.k) (enc:=unkLA_e) (a:=(unkLA_x s f).an) (unkLA_p s f hl ok) (by kernel_rfl) (AV.pureB_ok rfl),fnB_ok (by kernel_rfl)⟩
theorem nodup_get{α:Type}{l:List α}(hn:l.Nodup){i j:Nat}{x:α}(a:l[i]?=some x)(b:l[j]?=some x):i=j:=by
 have hi:=(List.getElem?_eq_some_iff.mp a).1
 have hj:=(List.getElem?_eq_some_iff.mp b).1
 rw[List.getElem?_eq_getElem hi]at a
 rw[List.getElem?_eq_getElem hj]at b
 exact(List.getElem_inj (h₀:=hi) (h₁:=hj) hn).mp (by rw[Option.some.inj a,Option.some.inj b])
section
variable {α β : Type} [DecidableEq α] {l : List (α × β)} {x y : α} {v z : β} {p : α × β}
theorem mkeys_mem:x∈mkeys l↔∃v,(x,v)∈l:=by
 unfold mkeys
 rw[List.mem_map]
 exact⟨λ⟨p,h,e⟩=>⟨p.2,by rw[←e];exact h⟩,λ⟨v,h⟩=>⟨_,h,rfl⟩⟩
theorem mhas_iff:mhas l x=true↔∃v,(x,v)∈l:=by
 unfold mhas;rw[decide_eq_true_iff,mkeys_mem]
theorem mkey_inj(h:(mkeys l).Nodup){v w:β}(h1:(x,v)∈l)(h2:(x,w)∈l):v=w:=by
 obtain⟨i,hi⟩:=List.mem_iff_getElem?.mp h1
 obtain⟨j,hj⟩:=List.mem_iff_getElem?.mp h2
 have a:(mkeys l)[i]?=some x:=by rw[mkeys,List.getElem?_map,hi];rfl
 have b:(mkeys l)[j]?=some x:=by rw[mkeys,List.getElem?_map,hj];rfl
 have g:=nodup_get h a b
 subst g;rw[hi]at hj;exact congrArg Prod.snd (Option.some.inj hj)
theorem midx_at(h:x∈mkeys l):∃v,l[midx l x]?=some (x,v):=by
 have e:l[midx l x]?=some (l[midx l x]'(midx_lt h)):=List.getElem?_eq_getElem (midx_lt h)
 refine⟨(l[midx l x]'(midx_lt h)).2,?_⟩
 rw[e]
 have:=midx_key h
 exact congrArg some (Prod.ext this rfl)
theorem mval_mem(h:mhas l x=true):(x,mval l x z)∈l:=by
 obtain⟨v,e⟩:=midx_at (of_decide_eq_true h)
 unfold mval;rw[e]
 exact mem_of_get e
theorem mval_eq(hn:(mkeys l).Nodup)(h:(x,v)∈l):mval l x z=v:=
 mkey_inj hn (mval_mem (mhas_iff.mpr ⟨v,h⟩)) h
theorem mval_no(h:mhas l x=false):mval l x z=z:=by
 have h:x ∉ mkeys l:=of_decide_eq_false h
 unfold mval;rw[midx_ge h,List.getElem?_eq_none (Nat.le_refl _)]
theorem mhas_no:mhas l x=false↔∀v,(x,v) ∉ l:=by
 rw[←Bool.not_eq_true,mhas_iff]
 exact⟨λh v hv=>h ⟨v,hv⟩,λh ⟨v,hv⟩=>h v hv⟩
theorem mkeys_put:mkeys (mput l x v)=if x∈mkeys l then mkeys l else mkeys l++[x]:=by
 unfold mput
 by_cases h:x∈mkeys l
 ·rw[if_pos h,if_pos h]
  unfold mkeys at h ⊢
  rw[List.map_set]
  obtain⟨v',e⟩:=midx_at h
  refine List.ext_getElem? λi=>?_
  rw[List.getElem?_set]
  split
  ·rename_i g;subst g
   rw[if_pos (by rw[List.length_map];exact lt_of_get e),List.getElem?_map,e];rfl
  ·rfl
 ·rw[if_neg h,if_neg h];simp[mkeys]
theorem mput_nodup(hn:(mkeys l).Nodup):(mkeys (mput l x v)).Nodup:=by
 rw[mkeys_put]
 split
 ·exact hn
 ·rename_i h
  exact List.nodup_append.mpr ⟨hn,by simp,λa ha b hb=>by rw[List.mem_singleton.mp hb];rintro rfl;exact h ha⟩
theorem mput_mem(hn:(mkeys l).Nodup):p∈mput l x v↔p=(x,v)∨(p∈l∧p.1≠x):=by
 unfold mput
 by_cases h:x∈mkeys l
 ·rw[if_pos h]
  obtain⟨v',e⟩:=midx_at h
  constructor
  ·intro hp
   obtain⟨i,hi⟩:=List.mem_iff_getElem?.mp hp
   rw[List.getElem?_set]at hi
   split at hi
   ·split at hi
    ·exact .inl (Option.some.inj hi).symm
    ·cases hi
   ·rename_i g
    refine .inr ⟨mem_of_get hi,?_⟩
    rintro rfl
    have a:(mkeys l)[i]?=some p.1:=by rw[mkeys,List.getElem?_map,hi];rfl
    have b:(mkeys l)[midx l p.1]?=some p.1:=by rw[mkeys,List.getElem?_map,e];rfl
    exact g (nodup_get hn a b).symm
  ·rintro(rfl|⟨hp,hne⟩)
   ·exact mem_of_get (i:=midx l x) (by rw[List.getElem?_set,if_pos rfl,if_pos (lt_of_get e)])
   ·obtain⟨i,hi⟩:=List.mem_iff_getElem?.mp hp
    refine mem_of_get (i:=i) ?_
    rw[List.getElem?_set,if_neg]
    ·exact hi
    ·rintro rfl
     rw[e]at hi
     exact hne (congrArg Prod.fst (Option.some.inj hi)).symm
 ·rw[if_neg h,List.mem_append,List.mem_singleton]
  constructor
  ·rintro(hp|hp)
   ·exact .inr ⟨hp,λe=>h (mkeys_mem.mpr ⟨p.2,by rw[←e];exact hp⟩)⟩
   ·exact .inl hp
  ·rintro(hp|⟨hp,_⟩)
   ·exact .inr hp
   ·exact .inl hp
theorem mdl_mem(hn:(mkeys l).Nodup):p∈mdl l x↔p∈l∧p.1≠x:=by
 unfold mdl
 by_cases h:x∈mkeys l
 ·obtain⟨v',e⟩:=midx_at h
  rw[List.mem_eraseIdx_iff_getElem?]
  constructor
  ·rintro⟨i,hne,hi⟩
   refine⟨mem_of_get hi,?_⟩
   rintro rfl
   have a:(mkeys l)[i]?=some p.1:=by rw[mkeys,List.getElem?_map,hi];rfl
   have b:(mkeys l)[midx l p.1]?=some p.1:=by rw[mkeys,List.getElem?_map,e];rfl
   exact hne (nodup_get hn a b)
  ·rintro⟨hp,hne⟩
   obtain⟨i,hi⟩:=List.mem_iff_getElem?.mp hp
   refine⟨i,?_,hi⟩
   rintro rfl
   rw[e]at hi
   exact hne (congrArg Prod.fst (Option.some.inj hi)).symm
 ·rw[midx_ge h,List.eraseIdx_of_length_le (Nat.le_refl _)]
  exact⟨λhp=>⟨hp,λe=>h (mkeys_mem.mpr ⟨p.2,by rw[←e];exact hp⟩)⟩,λhp=>hp.1⟩
theorem mdl_nodup(hn:(mkeys l).Nodup):(mkeys (mdl l x)).Nodup:=by
 unfold mdl mkeys
 rw[map_eraseIdx']
 exact hn.sublist (List.eraseIdx_sublist _ _)
theorem mhas_put(hn:(mkeys l).Nodup):mhas (mput l x v) y=(decide (y=x) || mhas l y):=by
 rw[Bool.eq_iff_iff,Bool.or_eq_true,decide_eq_true_iff,mhas_iff,mhas_iff]
 constructor
 ·rintro⟨w,h⟩
  rcases(mput_mem hn).mp h with h|⟨h,_⟩
  ·cases h;exact .inl rfl
  ·exact .inr ⟨w,h⟩
 ·rintro(rfl|⟨w,h⟩)
  ·exact⟨v,(mput_mem hn).mpr (.inl rfl)⟩
  ·by_cases e:y=x
   ·subst e;exact⟨v,(mput_mem hn).mpr (.inl rfl)⟩
   ·exact⟨w,(mput_mem hn).mpr (.inr ⟨h,e⟩)⟩
theorem mput_len:(mput l x v).length=if mhas l x=true then l.length else l.length+1:=by
 unfold mput mhas
 by_cases h:x∈mkeys l
 ·rw[if_pos h,decide_eq_true h,if_pos rfl,List.length_set]
 ·rw[if_neg h,decide_eq_false h];simp
end
structure Stp where
  to:Int
  cost:Int
def Stp.v(x:Stp):AV:=.agg [.int x.to,.int x.cost]
abbrev Lks:=List (Int×List Stp)
abbrev Dis:=List (Int×Int)
def bfr(x b:Int×Int):Prop:=x.2<b.2∨x.2=b.2∧x.1<b.1
instance (x b:Int×Int):Decidable (bfr x b):=by unfold bfr;infer_instance
def bstE:Dis→Option (Int×Int)
 | []=>none
 | x::l=>match bstE l with
  | none=>some x
  | some b=>if bfr x b then some x else some b
def bst(l:Dis):Int:=match bstE l with
 | none=>0
 | some b=>b.1
theorem bstE_spec:∀{l:Dis},l≠[]→∃b,bstE l=some b∧b∈l∧∀x∈l,¬bfr x b
 | [],h=>absurd rfl h
 | [x],_=>⟨x,rfl,by simp,by simp[bfr]⟩
 | x::y::l,_=>by
  obtain⟨b,h1,h2,h3⟩:=bstE_spec (l:=y::l) (by simp)
  rw[bstE,h1]
  simp only
  split
  ·rename_i h
   refine⟨x,rfl,by simp,λz hz=>?_⟩
   rcases List.mem_cons.mp hz with rfl|hz
   ·simp[bfr]
   ·have:=h3 z hz
    unfold bfr at *;omega
  ·rename_i h
   refine⟨b,rfl,by simp[h2],λz hz=>?_⟩
   rcases List.mem_cons.mp hz with rfl|hz
   ·exact h
   ·exact h3 z hz
theorem bst_eq{l:Dis}{b:Int×Int}(h:b∈l)(hb:∀x∈l,¬bfr x b):bst l=b.1:=by
 obtain⟨c,h1,h2,h3⟩:=bstE_spec (l:=l) (by rintro rfl;simp at h)
 have e1:=hb c h2
 have e2:=h3 b h
 unfold bst;rw[h1]
 simp only
 unfold bfr at e1 e2;omega
theorem evA_mget{kk:Option Nat}{z:AV}{ok:Bool}{m k:AO}{f:Nat}{ρ:AO→AV}{hp:Hp}:evA (.mget kk z ok m k) f ρ hp=match mapA hp (ρ m),(ρ k).key with
    | some (kk',ks,vs),some q=>{ c:=kk'=kk∧q.fits kk,v:=mgetA ks vs q z ok }
    | _,_=>.bad:=rfl
def dst_c:AC:=.seq (.reg [⟨(some 35),.move (.t 8),none⟩,⟨(some 36),.rng (.t 35),none⟩])
 (.block 2 (.loop (.seq (.reg [⟨(some 37),.nxt (.t 36),none⟩,⟨(some 38),.ext 0 (.t 37),none⟩])
 (.seq (.cond (.t 38) (.skip) (.exit 2))
 (.block 3 (.seq (.reg [⟨(some 39),.ent (.t 36),none⟩,⟨(some 40),.ext 0 (.t 39),none⟩,⟨(some 41),.ext 1 (.t 39),none⟩,⟨(some 10),.move (.t 40),none⟩,⟨(some 11),.move (.t 41),none⟩])
 (.seq (.reg [⟨(some 42),.move (.t 9),none⟩,⟨(some 43),.bin .eql (.t 42) (.c (.val (.int .i64 0))),none⟩,⟨(some 44),.move (.t 43),none⟩,⟨(some 45),.move (.t 11),(some (44,false))⟩,⟨(some 46),.move (.t 8),(some (44,false))⟩,⟨(some 47),.move (.t 9),(some (44,false))⟩,⟨(some 48),.mget none ((.val (.int .i64 0))) false (.t 46) (.t 47),(some (44,false))⟩,⟨(some 49),.bin .lss (.t 45) (.t 48),(some (44,false))⟩,⟨(some 50),.pick (.t 44) (.c (.val (.bool true))) (.t 49),none⟩,⟨(some 51),.move (.t 50),none⟩,⟨(some 52),.move (.t 11),(some (51,false))⟩,⟨(some 53),.move (.t 8),(some (51,false))⟩,⟨(some 54),.move (.t 9),(some (51,false))⟩,⟨(some 55),.mget none ((.val (.int .i64 0))) false (.t 53) (.t 54),(some (51,false))⟩,⟨(some 56),.bin .eql (.t 52) (.t 55),(some (51,false))⟩,⟨(some 57),.move (.t 56),(some (51,false))⟩,⟨(some 58),.move (.t 10),(some (57,true))⟩,⟨(some 59),.move (.t 9),(some (57,true))⟩,⟨(some 60),.bin .lss (.t 58) (.t 59),(some (57,true))⟩,⟨(some 61),.pick (.t 57) (.t 60) (.c (.val (.bool false))),(some (51,false))⟩,⟨(some 62),.pick (.t 51) (.c (.val (.bool true))) (.t 61),none⟩])
 (.cond (.t 62) (.reg [⟨(some 63),.move (.t 10),none⟩,⟨(some 9),.move (.t 63),none⟩]) (.skip)))))))))
abbrev lksA(L:Lks):AV:=.mp none (L.map λp=>MK.n p.1) (L.map λp=>(λl=>AV.sl 2 (l.map Stp.v) false) p.2)
abbrev disB(l:Dis):Blk:=.map none (l.map λp=>MK.n p.1) (l.map λp=>AV.int p.2)
def dst_m(L:Lks)(o l:Dis)(b:Int):NF:=
  ⟨[(0,.k,lksA L),(5,.k,.mref 0),(8,.k,.mref 1),(9,.k,.int b)],
   [.map none (o.map λp=>MK.n p.1) (o.map λp=>AV.int p.2) (pureBL_map (λ_=>rfl) _),.map none (l.map λp=>MK.n p.1) (l.map λp=>AV.int p.2) (pureBL_map (λ_=>rfl) _)]⟩
def dstS(L:Lks)(o l:Dis)(st:List Nat)(ck:Nat)(seen:List Nat)(b:Int):S3:=
 ⟨resT [(0,lksA L),(5,.mref 0),(8,.mref 1),(9,.int b),(36,.ref 2 0)],hpL 0 [some (disB o),some (.mst none (l.map λp=>MK.n p.1) (l.map λp=>AV.int p.2) st ck),some (.itr 1 st ck seen)],3⟩
def bstJ(l:Dis)(st seen:List Nat)(b:Int):Prop:=(seen=[]∧b=0)∨∃(i:Nat) (x:Int×Int) (s:Nat),l[i]?=some x∧st[i]?=some s∧s∈seen∧b=x.1∧∀(j:Nat) (y:Int×Int) (s:Nat),l[j]?=some y→st[j]?=some s→s∈seen→¬bfr y x
def okOpen(l:Dis):Prop:=∀x∈l,x.1≠0∧-9223372036854775808≤x.1∧x.1≤9223372036854775807
theorem dst_h(L:Lks)(o l:Dis)(hl:okOpen l)(k:Nat):HandOk Tryz.prog 0 k dst_c (dst_m L o l 0).st (dst_m L o l (bst l)).st:=by
 unfold HandOk dst_c
 show AWP _ 0 k _ _ ⟨resT [(0,lksA L),(5,.mref 0),(8,.mref 1),(9,.int 0)],hpL 0 [some (disB o),some (disB l)],2⟩
 refine AWP.open 1 rfl λst ck hs1 hs2 hn hv=>?_
 refine AWP.seq' ?_
 refine AWP.reg' λK hK=>?_
 try simp only[stepS,stepD,stepM,eq_self,implies_true,forall_eq_or_imp,forall_eq,Nat.reduceEqDiff,↓reduceIte,Nat.reduceAdd,Nat.reduceLeDiff,Nat.reduceSub,Nat.reduceMul,Nat.reduceLT,Int.reduceBEq,Int.reduceBNe,Int.reduceToNat,Int.reduceLT,Int.reduceLE,Int.reduceAdd,Int.reduceSub,Int.reduceMul,reduceCtorEq]
 refine evT_rng rfl rfl ?_
 try simp only[stepS,stepD,stepM,eq_self,implies_true,forall_eq_or_imp,forall_eq,Nat.reduceEqDiff,↓reduceIte,Nat.reduceAdd,Nat.reduceLeDiff,Nat.reduceSub,Nat.reduceMul,Nat.reduceLT,Int.reduceBEq,Int.reduceBNe,Int.reduceToNat,Int.reduceLT,Int.reduceLE,Int.reduceAdd,Int.reduceSub,Int.reduceMul,reduceCtorEq]
 refine hK _ _ _ ?_
 clear hK K
 refine AWP.block ?_
 have hvl:pureL (l.map λp=>AV.int p.2):=pureBL_ok (pureBL_map (v:=λp:Int×Int=>AV.int p.2) (λ_=>rfl) l)
 have hvo:pureL (o.map λp=>AV.int p.2):=pureBL_ok (pureBL_map (v:=λp:Int×Int=>AV.int p.2) (λ_=>rfl) o)
 have rm:∀(π:Nat→Nat) (o:Dis),some (disB o)=some (Blk.ren π (disB o)):=λπ o=>by
  rw[Blk.ren,renL_pure _ (pureBL_ok (pureBL_map (v:=λp:Int×Int=>AV.int p.2) (λ_=>rfl) o))]
 have rs:∀(π:Nat→Nat),some (Blk.mst none (l.map λp=>MK.n p.1) (l.map λp=>AV.int p.2) st ck)=some (Blk.ren π (.mst none (l.map λp=>MK.n p.1) (l.map λp=>AV.int p.2) st ck)):=λπ=>by
  rw[Blk.ren,renL_pure _ hvl]
 have bm:∀o:Dis,Blk.bel 3 (disB o):=λo=>belL_pure (pureBL_ok (pureBL_map (v:=λp:Int×Int=>AV.int p.2) (λ_=>rfl) o))
 have bs:Blk.bel 3 (.mst none (l.map λp=>MK.n p.1) (l.map λp=>AV.int p.2) st ck):=belL_pure hvl
 rw[List.length_map]at hs2
 refine AWP.loopS (λt:List Nat×Int=>dstS L o l st ck t.1 t.2) (λt=>bstJ l st t.1 t.2∧t.1.Nodup∧∀s∈t.1,s∈st) (λt=>st.length-t.1.length) (i0:=([],0)) ⟨.inl ⟨rfl,rfl⟩,by simp,by simp⟩ ?_ ?_
 ·unfold dstS
  refine Weak.nf [0,1,18] _ _ ?_ ?_ ⟨rfl,rfl⟩ (by decide) (by decide) (by decide)
  ·repeat' (first|exact trivial|exact And.intro rfl trivial|refine And.intro ?_ ?_|rfl|exact Nat.le_of_ble_eq_true rfl|exact rm _ _|exact rs _|exact bm _|exact bs)
  ·repeat' (first|exact trivial|exact And.intro rfl trivial|refine And.intro ?_ ?_|rfl|exact Nat.le_of_ble_eq_true rfl|exact rm _ _|exact rs _|exact bm _|exact bs)
 ·rintro⟨seen,b⟩ ⟨hJ,hnd,hsub⟩
  unfold dstS
  refine AWP.seq' ?_
  refine AWP.reg' λK hK=>?_
  try simp only[stepS,stepD,stepM,eq_self,implies_true,forall_eq_or_imp,forall_eq,Nat.reduceEqDiff,↓reduceIte,Nat.reduceAdd,Nat.reduceLeDiff,Nat.reduceSub,Nat.reduceMul,Nat.reduceLT,Int.reduceBEq,Int.reduceBNe,Int.reduceToNat,Int.reduceLT,Int.reduceLE,Int.reduceAdd,Int.reduceSub,Int.reduceMul,reduceCtorEq]
  have hk:∀q∈(l.map λp=>MK.n p.1),kOk q:=λq hq=>by
   obtain⟨x,hx,rfl⟩:=List.mem_map.mp hq
   have:=hl x hx
   show inK .i64 x.1
   rw[inK64];exact this.2
  refine evT_nxt rfl rfl rfl hk (λhs=>?_) (λi q v s0 e1 e2 e3 e4=>?_)
  ·try simp only[stepS,stepD,stepM,eq_self,implies_true,forall_eq_or_imp,forall_eq,Nat.reduceEqDiff,↓reduceIte,Nat.reduceAdd,Nat.reduceLeDiff,Nat.reduceSub,Nat.reduceMul,Nat.reduceLT,Int.reduceBEq,Int.reduceBNe,Int.reduceToNat,Int.reduceLT,Int.reduceLE,Int.reduceAdd,Int.reduceSub,Int.reduceMul,reduceCtorEq]
   refine hK _ _ _ ?_
   clear hK K
   have hb:b=bst l:=by
    rcases hJ with⟨h1,h2⟩|⟨i,x,s,g1,g2,g3,g4,g5⟩
    ·have h1:seen=[]:=h1
     subst h1
     have:st=[]:=List.eq_nil_iff_forall_not_mem.mpr λs hs'=>by simpa using hs s hs'
     have:l=[]:=List.eq_nil_of_length_eq_zero (by rw[←hs2,this];rfl)
     subst this;exact h2
    ·have g4:b=x.1:=g4
     rw[g4]
     refine(bst_eq (mem_of_get g1) λy hy=>?_).symm
     obtain⟨j,hj⟩:=List.mem_iff_getElem?.mp hy
     have hlt:=lt_of_get hj
     exact g5 j y (st[j]'(by omega)) hj (List.getElem?_eq_getElem (by omega)) (hs _ (List.getElem_mem _))
   refine AWP.seq' (AWP.cond (b:=false) rfl (λh=>by cases h) (λ_=>AWP.exit ?_))
   show Weak 0 k _ ⟨resT [(0,lksA L),(5,.mref 0),(8,.mref 1),(9,.int (bst l))],hpL 0 [some (disB o),some (disB l)],2⟩
   rw[←hb]
   refine Weak.trans (Weak.close 1 rfl) ?_
   have bm:∀o:Dis,Blk.bel 2 (disB o):=λo=>belL_pure (pureBL_ok (pureBL_map (v:=λp:Int×Int=>AV.int p.2) (λ_=>rfl) o))
   refine Weak.nf [0,1] _ _ ?_ ?_ ⟨rfl,rfl⟩ (by decide) (by decide) (by decide)
   ·repeat' (first|exact trivial|exact And.intro rfl trivial|refine And.intro ?_ ?_|rfl|exact Nat.le_of_ble_eq_true rfl|exact rm _ _|exact bm _)
   ·repeat' (first|exact trivial|exact And.intro rfl trivial|refine And.intro ?_ ?_|rfl|exact Nat.le_of_ble_eq_true rfl|exact rm _ _|exact bm _)
  ·try simp only[stepS,stepD,stepM,eq_self,implies_true,forall_eq_or_imp,forall_eq,Nat.reduceEqDiff,↓reduceIte,Nat.reduceAdd,Nat.reduceLeDiff,Nat.reduceSub,Nat.reduceMul,Nat.reduceLT,Int.reduceBEq,Int.reduceBNe,Int.reduceToNat,Int.reduceLT,Int.reduceLE,Int.reduceAdd,Int.reduceSub,Int.reduceMul,reduceCtorEq]
   refine hK _ _ _ ?_
   clear hK K
   refine AWP.seq' (AWP.cond (b:=true) rfl (λ_=>?_) (λh=>by cases h))
   refine AWP.skip ?_
   refine AWP.block (AWP.seq' ?_)
   rw[List.getElem?_map,Option.map_eq_some_iff]at e1 e2
   obtain⟨x,e1,rfl⟩:=e1
   obtain⟨x',e2,rfl⟩:=e2
   rw[e1]at e2;cases e2
   have e5:(l.map λp=>MK.n p.1)[i]?=some (MK.n x.1):=by rw[List.getElem?_map,e1];rfl
   have e6:(l.map λp=>AV.int p.2)[i]?=some (AV.int x.2):=by rw[List.getElem?_map,e1];rfl
   refine AWP.reg' λK hK=>?_
   try simp only[stepS,stepD,stepM,eq_self,implies_true,forall_eq_or_imp,forall_eq,Nat.reduceEqDiff,↓reduceIte,Nat.reduceAdd,Nat.reduceLeDiff,Nat.reduceSub,Nat.reduceMul,Nat.reduceLT,Int.reduceBEq,Int.reduceBNe,Int.reduceToNat,Int.reduceLT,Int.reduceLE,Int.reduceAdd,Int.reduceSub,Int.reduceMul,reduceCtorEq]
   refine evT_ent rfl rfl rfl e3 e5 e6 (hk _ (List.mem_of_getElem? e5)) ?_
   try simp only[stepS,stepD,stepM,eq_self,implies_true,forall_eq_or_imp,forall_eq,Nat.reduceEqDiff,↓reduceIte,Nat.reduceAdd,Nat.reduceLeDiff,Nat.reduceSub,Nat.reduceMul,Nat.reduceLT,Int.reduceBEq,Int.reduceBNe,Int.reduceToNat,Int.reduceLT,Int.reduceLE,Int.reduceAdd,Int.reduceSub,Int.reduceMul,reduceCtorEq,kAV]
   refine hK _ _ _ ?_
   clear hK K
   refine AWP.seq' ?_
   have hN:(seen++[s0]).Nodup:=List.nodup_append.mpr ⟨hnd,by simp,λa ha b hb=>by rw[List.mem_singleton.mp hb];rintro rfl;exact e4 ha⟩
   have hS:∀s∈seen++[s0],s∈st:=λs hs=>by
    rcases List.mem_append.mp hs with hs|hs
    ·exact hsub s hs
    ·rw[List.mem_singleton.mp hs];exact List.mem_of_getElem? e3
   have hL:st.length-(seen++[s0]).length<st.length-seen.length:=by
    have:=List.Nodup.length_le_of_subset hN hS
    rw[List.length_append,List.length_singleton]at this ⊢;omega
   have hu:∀{j y},l[j]?=some y→st[j]?=some s0→y=x:=λ{j y} h1 h2=>by
    have:=nodup_get hs1 h2 e3
    subst this;rw[h1]at e1;exact Option.some.inj e1
   have hnew:(∀(j:Nat) (y:Int×Int) (s:Nat),l[j]?=some y→st[j]?=some s→s∈seen→¬bfr y x)→bstJ l st (seen++[s0]) x.1:=λh =>
    .inr ⟨i,x,s0,e1,e3,by simp,rfl,λj y s h1 h2 h3=>by
     rcases List.mem_append.mp h3 with h3|h3
     ·exact h j y s h1 h2 h3
     ·rw[List.mem_singleton.mp h3]at h2;rw[hu h1 h2];simp[bfr]⟩
   rcases hJ with⟨h1,h2⟩|⟨i',y,s,g1,g2,g3,g4,g5⟩
   ·have h1:seen=[]:=h1
    have h2:b=0:=h2
    subst h1;subst h2
    have hJ':=hnew (λj y s _ _ h3=>by simp at h3)
    refine AWP.reg' λK hK=>?_
    try simp only[stepS,stepD,stepM,eq_self,implies_true,forall_eq_or_imp,forall_eq,Nat.reduceEqDiff,↓reduceIte,Nat.reduceAdd,Nat.reduceLeDiff,Nat.reduceSub,Nat.reduceMul,Nat.reduceLT,Int.reduceBEq,Int.reduceBNe,Int.reduceToNat,Int.reduceLT,Int.reduceLE,Int.reduceAdd,Int.reduceSub,Int.reduceMul,reduceCtorEq]
    refine hK _ _ _ ?_
    clear hK K
    refine AWP.cond (b:=true) rfl (λ_=>?_) (λh=>by cases h)
    refine AWP.reg' λK hK=>?_
    try simp only[stepS,stepD,stepM,eq_self,implies_true,forall_eq_or_imp,forall_eq,Nat.reduceEqDiff,↓reduceIte,Nat.reduceAdd,Nat.reduceLeDiff,Nat.reduceSub,Nat.reduceMul,Nat.reduceLT,Int.reduceBEq,Int.reduceBNe,Int.reduceToNat,Int.reduceLT,Int.reduceLE,Int.reduceAdd,Int.reduceSub,Int.reduceMul,reduceCtorEq]
    refine hK _ _ _ ?_
    clear hK K
    refine⟨(_,_),⟨hJ',hN,hS⟩,hL,?_⟩
    refine Weak.nf [0,1,2] _ _ ?_ ?_ ⟨rfl,rfl⟩ (by decide) (by decide) (by decide)
    ·repeat' (first|exact trivial|exact And.intro rfl trivial|refine And.intro ?_ ?_|rfl|exact Nat.le_of_ble_eq_true rfl|exact rm _ _|exact rs _|exact bm _|exact bs)
    ·repeat' (first|exact trivial|exact And.intro rfl trivial|refine And.intro ?_ ?_|rfl|exact Nat.le_of_ble_eq_true rfl|exact rm _ _|exact rs _|exact bm _|exact bs)
   ·have g4:b=y.1:=g4
    subst g4
    have hy0:¬y.1=0:=(hl y (mem_of_get g1)).1
    have hmg:mgetA (l.map λp=>MK.n p.1) (l.map λp=>AV.int p.2) (MK.n y.1) (AV.int 0) false=AV.int y.2:=by
     have hh:mhas l y.1=true:=mhas_iff.mpr ⟨y.2,mem_of_get g1⟩
     have hnk:(mkeys l).Nodup:=by
      have:=keys_map (l:=l) (kf:=MK.n)
      rw[this]at hn
      exact List.Pairwise.of_map MK.n (λa b h e=>h (congrArg _ e)) hn
     rw[mgetB_has (vf:=AV.int) (z:=0) (λ_ _ h=>MK.n.inj h) hh,mval_eq hnk (mem_of_get g1)];rfl
    have hy1:(y.1==0)=false:=by simpa using hy0
    have hbt:bfr x y→bstJ l st (seen++[s0]) x.1:=λh=>hnew λj z s' h1 h2 h3=>by
     have:=g5 j z s' h1 h2 h3
     unfold bfr at *;omega
    have hbf:¬bfr x y→bstJ l st (seen++[s0]) y.1:=λh=>.inr ⟨i',y,s,g1,g2,List.mem_append_left _ g3,rfl,λj z s' h1 h2 h3=>by
     rcases List.mem_append.mp h3 with h3|h3
     ·exact g5 j z s' h1 h2 h3
     ·rw[List.mem_singleton.mp h3]at h2;rw[hu h1 h2];exact h⟩
    by_cases c1:x.2<y.2
    ·refine AWP.reg' λK hK=>?_
     try simp only[stepS,stepD,stepM,eq_self,implies_true,forall_eq_or_imp,forall_eq,Nat.reduceEqDiff,↓reduceIte,Nat.reduceAdd,Nat.reduceLeDiff,Nat.reduceSub,Nat.reduceMul,Nat.reduceLT,Int.reduceBEq,Int.reduceBNe,Int.reduceToNat,Int.reduceLT,Int.reduceLE,Int.reduceAdd,Int.reduceSub,Int.reduceMul,reduceCtorEq,hy0,hy1,hmg,evA_mget,mapA,AV.key,MK.fits,and_self,true_and,c1]
     refine hK _ _ _ ?_
     clear hK K
     refine AWP.cond (b:=true) rfl (λ_=>?_) (λh=>by cases h)
     refine AWP.reg' λK hK=>?_
     try simp only[stepS,stepD,stepM,eq_self,implies_true,forall_eq_or_imp,forall_eq,Nat.reduceEqDiff,↓reduceIte,Nat.reduceAdd,Nat.reduceLeDiff,Nat.reduceSub,Nat.reduceMul,Nat.reduceLT,Int.reduceBEq,Int.reduceBNe,Int.reduceToNat,Int.reduceLT,Int.reduceLE,Int.reduceAdd,Int.reduceSub,Int.reduceMul,reduceCtorEq]
     refine hK _ _ _ ?_
     clear hK K
     refine⟨(_,_),⟨hbt (.inl c1),hN,hS⟩,hL,?_⟩
     refine Weak.nf [0,1,2] _ _ ?_ ?_ ⟨rfl,rfl⟩ (by decide) (by decide) (by decide)
     ·repeat' (first|exact trivial|exact And.intro rfl trivial|refine And.intro ?_ ?_|rfl|exact Nat.le_of_ble_eq_true rfl|exact rm _ _|exact rs _|exact bm _|exact bs)
     ·repeat' (first|exact trivial|exact And.intro rfl trivial|refine And.intro ?_ ?_|rfl|exact Nat.le_of_ble_eq_true rfl|exact rm _ _|exact rs _|exact bm _|exact bs)
    ·by_cases c2:x.2=y.2
     ·have c2':(x.2==y.2)=true:=by simpa using c2
      by_cases c3:x.1<y.1
      ·refine AWP.reg' λK hK=>?_
       try simp only[stepS,stepD,stepM,eq_self,implies_true,forall_eq_or_imp,forall_eq,Nat.reduceEqDiff,↓reduceIte,Nat.reduceAdd,Nat.reduceLeDiff,Nat.reduceSub,Nat.reduceMul,Nat.reduceLT,Int.reduceBEq,Int.reduceBNe,Int.reduceToNat,Int.reduceLT,Int.reduceLE,Int.reduceAdd,Int.reduceSub,Int.reduceMul,reduceCtorEq,hy0,hy1,hmg,evA_mget,mapA,AV.key,MK.fits,and_self,true_and,c1,c2',c3]
       refine hK _ _ _ ?_
       clear hK K
       refine AWP.cond (b:=true) rfl (λ_=>?_) (λh=>by cases h)
       refine AWP.reg' λK hK=>?_
       try simp only[stepS,stepD,stepM,eq_self,implies_true,forall_eq_or_imp,forall_eq,Nat.reduceEqDiff,↓reduceIte,Nat.reduceAdd,Nat.reduceLeDiff,Nat.reduceSub,Nat.reduceMul,Nat.reduceLT,Int.reduceBEq,Int.reduceBNe,Int.reduceToNat,Int.reduceLT,Int.reduceLE,Int.reduceAdd,Int.reduceSub,Int.reduceMul,reduceCtorEq]
       refine hK _ _ _ ?_
       clear hK K
       refine⟨(_,_),⟨hbt (.inr ⟨c2,c3⟩),hN,hS⟩,hL,?_⟩
       refine Weak.nf [0,1,2] _ _ ?_ ?_ ⟨rfl,rfl⟩ (by decide) (by decide) (by decide)
       ·repeat' (first|exact trivial|exact And.intro rfl trivial|refine And.intro ?_ ?_|rfl|exact Nat.le_of_ble_eq_true rfl|exact rm _ _|exact rs _|exact bm _|exact bs)
       ·repeat' (first|exact trivial|exact And.intro rfl trivial|refine And.intro ?_ ?_|rfl|exact Nat.le_of_ble_eq_true rfl|exact rm _ _|exact rs _|exact bm _|exact bs)
      ·refine AWP.reg' λK hK=>?_
       try simp only[stepS,stepD,stepM,eq_self,implies_true,forall_eq_or_imp,forall_eq,Nat.reduceEqDiff,↓reduceIte,Nat.reduceAdd,Nat.reduceLeDiff,Nat.reduceSub,Nat.reduceMul,Nat.reduceLT,Int.reduceBEq,Int.reduceBNe,Int.reduceToNat,Int.reduceLT,Int.reduceLE,Int.reduceAdd,Int.reduceSub,Int.reduceMul,reduceCtorEq,hy0,hy1,hmg,evA_mget,mapA,AV.key,MK.fits,and_self,true_and,c1,c2',c3]
       refine hK _ _ _ ?_
       clear hK K
       refine AWP.cond (b:=false) rfl (λh=>by cases h) (λ_=>?_)
       refine AWP.skip ?_
       refine⟨(_,_),⟨hbf (by unfold bfr;omega),hN,hS⟩,hL,?_⟩
       refine Weak.nf [0,1,2] _ _ ?_ ?_ ⟨rfl,rfl⟩ (by decide) (by decide) (by decide)
       ·repeat' (first|exact trivial|exact And.intro rfl trivial|refine And.intro ?_ ?_|rfl|exact Nat.le_of_ble_eq_true rfl|exact rm _ _|exact rs _|exact bm _|exact bs)
       ·repeat' (first|exact trivial|exact And.intro rfl trivial|refine And.intro ?_ ?_|rfl|exact Nat.le_of_ble_eq_true rfl|exact rm _ _|exact rs _|exact bm _|exact bs)
     ·have c2':(x.2==y.2)=false:=by simpa using c2
      refine AWP.reg' λK hK=>?_
      try simp only[stepS,stepD,stepM,eq_self,implies_true,forall_eq_or_imp,forall_eq,Nat.reduceEqDiff,↓reduceIte,Nat.reduceAdd,Nat.reduceLeDiff,Nat.reduceSub,Nat.reduceMul,Nat.reduceLT,Int.reduceBEq,Int.reduceBNe,Int.reduceToNat,Int.reduceLT,Int.reduceLE,Int.reduceAdd,Int.reduceSub,Int.reduceMul,reduceCtorEq,hy0,hy1,hmg,evA_mget,mapA,AV.key,MK.fits,and_self,true_and,c1,c2']
      refine hK _ _ _ ?_
      clear hK K
      refine AWP.cond (b:=false) rfl (λh=>by cases h) (λ_=>?_)
      refine AWP.skip ?_
      refine⟨(_,_),⟨hbf (by unfold bfr;omega),hN,hS⟩,hL,?_⟩
      refine Weak.nf [0,1,2] _ _ ?_ ?_ ⟨rfl,rfl⟩ (by decide) (by decide) (by decide)
      ·repeat' (first|exact trivial|exact And.intro rfl trivial|refine And.intro ?_ ?_|rfl|exact Nat.le_of_ble_eq_true rfl|exact rm _ _|exact rs _|exact bm _|exact bs)
      ·repeat' (first|exact trivial|exact And.intro rfl trivial|refine And.intro ?_ ?_|rfl|exact Nat.le_of_ble_eq_true rfl|exact rm _ _|exact rs _|exact bm _|exact bs)
theorem View.refN{foot:List Nat}{hp:Hp}{b off:Nat}{x y:AV}(hb:b∈foot)(h:hp b=some (.box x))(hv:View foot hp x y)(hs:y.solid=true):View foot hp (.ref b off) (.rptr y off):=by
 intro P c A μ fr tm' hp' n a w cv H hh hv'
 obtain⟨hd,e1,e2,rfl⟩:=hv'
 obtain⟨hd',v,ty,f1,f2,f3,f4,f5,f6⟩:=H.box ((hh b hb).trans h)
 rw[e1]at f1;cases f1
 obtain⟨hd',g1,_,g3⟩:=H.blk b _ ((hh b hb).trans h)
 rw[e1]at g1;cases g1
 have q:=hv P c A μ fr tm' hp' n a w v H hh f4
 refine⟨hd.blk,0,v,by simp,.inr ⟨b,_,hd,(hh b hb).trans h,e1,e2,rfl⟩,q,(RV.cells hs q).2,λp u hu=>f6 p u hu⟩
def unk_c:AC:=.reg [⟨(some 52),.faddr 1 (.t 1),none⟩,⟨(some 53),.load false 1 (.t 52),none⟩,⟨(some 54),.mkf 170 [(.t 4)],none⟩,⟨(some 55),.call (.c (.func 168 [])) [(.t 53),(.t 54)],none⟩,⟨(some 51),.move (.t 55),none⟩]
def unk_m(t:Tpl):NF:=⟨[(1,.k,.ref 0 0),(4,.k,.ref 1 0)],[.box (Tpl.v t),.box (.func 165 [.ref 0 0])]⟩
def unk_n(t:Tpl)(b:Bool):NF:=⟨[(1,.k,.ref 0 0),(51,.k,.bool b)],[.box (Tpl.v t)]⟩
theorem unk_h(t:Tpl)(hl:t.rs.length≤1000000)(k:Nat):HandOk Tryz.prog 0 k unk_c (unk_m t).st (unk_n t (t.ls.any λy=>unkL y t)).st:=by
 unfold HandOk unk_c
 show AWP _ 0 k _ _ ⟨resT [(1,.ref 0 0),(4,.ref 1 0)],hpL 0 [some (.box (Tpl.v t)),some (.box (.func 165 [.ref 0 0]))],2⟩
 refine AWP.reg' λK hK=>?_
 try simp only[stepS,stepD,stepM,eq_self,implies_true,forall_eq_or_imp,forall_eq,Nat.reduceEqDiff,↓reduceIte,Nat.reduceAdd,Nat.reduceLeDiff,Nat.reduceSub,Nat.reduceMul,Nat.reduceLT,Int.reduceBEq,Int.reduceBNe,Int.reduceToNat,Int.reduceLT,Int.reduceLE,Int.reduceAdd,Int.reduceSub,Int.reduceMul,reduceCtorEq,Tpl.v]
 refine evT_lend [0,1] (unkLA_c t.ls t hl).ok (unkLA_c t.ls t hl).fn rfl rfl ⟨View.pure trivial,View.func ⟨?_,trivial⟩,trivial⟩ trivial ?_
 ·refine View.refN (by simp) rfl (View.func ⟨View.ref (by simp) rfl ⟨trivial,trivial,trivial⟩,trivial⟩) rfl
 try simp only[stepS,stepD,stepM,eq_self,implies_true,forall_eq_or_imp,forall_eq,Nat.reduceEqDiff,↓reduceIte,Nat.reduceAdd,Nat.reduceLeDiff,Nat.reduceSub,Nat.reduceMul,Nat.reduceLT,Int.reduceBEq,Int.reduceBNe,Int.reduceToNat,Int.reduceLT,Int.reduceLE,Int.reduceAdd,Int.reduceSub,Int.reduceMul,reduceCtorEq]
 refine hK _ _ _ ?_
 clear hK K
 refine(show Weak 0 k _ ⟨resT [(1,.ref 0 0),(51,.bool (t.ls.any λy=>unkL y t))],hpL 0 [some (.box (Tpl.v t))],1⟩from ?_)
 refine Weak.nf [0] _ _ ?_ ?_ ⟨rfl,rfl⟩ (by decide) (by decide) (by decide)
 ·repeat' (first|exact trivial|exact And.intro rfl trivial|refine And.intro ?_ ?_|rfl|exact Nat.le_of_ble_eq_true rfl)
 ·repeat' (first|exact trivial|exact And.intro rfl trivial|refine And.intro ?_ ?_|rfl|exact Nat.le_of_ble_eq_true rfl)
def ForC{α:Type}(l:List α)(R:α→α→Prop)(t:Int):Prop:=∃k:Nat,t=k∧k≤l.length∧∀(j:Nat) x y,j+1<k→l[j]?=some x→l[j+1]?=some y→R x y
section
variable {α : Type} {l : List α} {R : α → α → Prop} {t : Int} {x y : α}
theorem ForC.zero:ForC l R 0:=⟨0,rfl,by omega,λj x y h=>by omega⟩
theorem ForC.idx(h:ForC l R t):0≤t:=by obtain⟨k,rfl,_,_⟩:=h;omega
theorem ForC.step0(h:ForC l R t)(hl:l.length≤1000000)(c:t<l.length)(h0:¬0<t):ForC l R (W (t+1))∧l.length-(W (t+1)).toNat<l.length-t.toNat:=by
 obtain⟨k,rfl,hk,ha⟩:=h
 obtain rfl:k=0:=by omega
 rw[W_succ (n:=l.length) (by omega) (by omega)]
 exact⟨⟨1,rfl,by omega,λj x y hj=>by omega⟩,by omega⟩
theorem ForC.step(h:ForC l R t)(hl:l.length≤1000000)(h0:0<t)(hx:l[(W (t-1)).toNat]?=some x)(hy:l[t.toNat]?=some y)(p:R x y):ForC l R (W (t+1))∧l.length-(W (t+1)).toNat<l.length-t.toNat:=by
 obtain⟨k,rfl,hk,ha⟩:=h
 rw[Int.toNat_natCast]at hy
 have hlt:=lt_of_get hy
 rw[W_pred (by omega) (by omega),Int.toNat_natCast]at hx
 rw[W_succ (n:=l.length) hlt (by omega)]
 refine⟨⟨k+1,rfl,by omega,λj x' y' hj hx' hy'=>?_⟩,by omega⟩
 by_cases e:j+1=k
 ·subst e
  rw[show j+1-1=j by omega,hx']at hx;cases hx
  rw[hy']at hy;cases hy;exact p
 ·exact ha j x' y' (by omega) hx' hy'
theorem ForC.bad(h:ForC l R t)(hl:l.length≤1000000)(h0:0<t)(hx:l[(W (t-1)).toNat]?=some x)(hy:l[t.toNat]?=some y)(p:¬R x y):¬l.Pairwise R:=by
 obtain⟨k,rfl,hk,ha⟩:=h
 rw[Int.toNat_natCast]at hy
 have hlt:=lt_of_get hy
 rw[W_pred (by omega) (by omega),Int.toNat_natCast]at hx
 intro hp
 rw[List.pairwise_iff_getElem]at hp
 have:=hp (k-1) k (by omega) hlt (by omega)
 rw[List.getElem?_eq_getElem (by omega)]at hx hy
 rw[Option.some.inj hx,Option.some.inj hy]at this
 exact p this
theorem ForC.rng(h:ForC l R t)(hl:l.length≤1000000)(h0:0<t)(c:t<l.length):0≤W (t-1)∧W (t-1)<l.length:=by
 obtain⟨k,rfl,hk,ha⟩:=h
 rw[W_pred (by omega) (by omega)];omega
theorem ForC.next(h:ForC l R t)(hl:l.length≤1000000)(c:t<l.length){b:Bool}(hb:b=true↔0<t∧∃x y,l[(W (t-1)).toNat]?=some x∧l[t.toNat]?=some y∧¬R x y) :
  (b=true→¬l.Pairwise R)∧(b=false→ForC l R (W (t+1))∧l.length-(W (t+1)).toNat<l.length-t.toNat):=by
 refine⟨λe=>?_,λe=>?_⟩
 ·obtain⟨h0,x,y,hx,hy,p⟩:=hb.mp e
  exact h.bad hl h0 hx hy p
 ·by_cases h0:0<t
  ·obtain⟨g1,g2⟩:=h.rng hl h0 c
   have hx:=List.getElem?_eq_getElem (show(W (t-1)).toNat<l.length by omega)
   have hy:=List.getElem?_eq_getElem (show t.toNat<l.length by omega)
   refine h.step hl h0 hx hy (Classical.byContradiction λp=>?_)
   have:=hb.mpr ⟨h0,_,_,hx,hy,p⟩
   rw[e]at this;cases this
  ·exact h.step0 hl c h0
theorem ForC.done(h:ForC l R t)(c:¬t<l.length)(tr:∀x y z,R x y→R y z→R x z):l.Pairwise R:=by
 obtain⟨k,rfl,hk,ha⟩:=h
 rw[List.pairwise_iff_getElem]
 have key:∀d i,(hi:i+d+1<l.length)→R (l[i]'(by omega)) l[i+d+1]:=by
  intro d
  induction d with
  | zero=>intro i hi;exact ha i _ _ (by omega) (List.getElem?_eq_getElem (by omega)) (List.getElem?_eq_getElem hi)
  | succ d ih =>
   intro i hi
   exact tr _ _ _ (ih i (by omega)) (ha (i+d+1) _ _ (by omega) (List.getElem?_eq_getElem (by omega)) (List.getElem?_eq_getElem hi))
 intro i j hi hj hij
 have:=key (j-i-1) i (by omega)
 simp only[show i+(j-i-1)+1=j by omega]at this
 exact this
end
theorem asc_getR{l:List Rtr}(h:l.Pairwise (λx y=>x.id<y.id)){i j:Nat}(hij:i<j){x y:Rtr}(hx:l[i]?=some x)(hy:l[j]?=some y):x.id<y.id:=by
 have hi:=lt_of_get hx
 have hj:=lt_of_get hy
 rw[List.getElem?_eq_getElem hi]at hx
 rw[List.getElem?_eq_getElem hj]at hy
 have:=List.pairwise_iff_getElem.mp h i j hi hj hij
 rw[Option.some.inj hx,Option.some.inj hy]at this
 exact this
theorem rngB_any(l:List Rtr):l.any rngB=true↔¬∀x∈l,1≤x.id∧x.id≤99:=by
 rw[List.any_eq_true]
 constructor
 ·rintro⟨x,hx,e⟩ h
  have:=h x hx
  simp[rngB,inT,this]at e
 ·intro h
  refine Classical.byContradiction λq=>h λx hx=>?_
  have:¬rngB x=true:=λe=>q ⟨x,hx,e⟩
  simp[rngB,inT]at this
  omega
theorem cstB_any(l:List Lnk):l.any cstB=true↔¬∀x∈l,lnkR x:=by
 rw[List.any_eq_true]
 have key:∀x:Lnk,cstB x=true↔¬lnkR x:=λx=>by
  unfold cstB lnkR inT cst5
  simp
  omega
 constructor
 ·rintro⟨x,hx,e⟩ h
  exact(key x).mp e (h x hx)
 ·intro h
  exact Classical.byContradiction λq=>h λx hx=>Classical.byContradiction λr=>q ⟨x,hx,(key x).mpr r⟩
theorem aleB_any(l:List Lnk):l.any aleB=true↔¬∀x∈l,x.a<x.b:=by
 rw[List.any_eq_true]
 constructor
 ·rintro⟨x,hx,e⟩ h
  have:=h x hx
  simp[aleB]at e;omega
 ·intro h
  exact Classical.byContradiction λq=>h λx hx=>Classical.byContradiction λr=>q ⟨x,hx,by simp[aleB];omega⟩
theorem hitR_any{l:List Rtr}(h:l.Pairwise λx y=>x.id<y.id)(r:Int):(hitR l r=l.any (eqR r))∧∀x∈l,eqR r x=true→l[posR l r]?=some x:=by
 refine bsH_any (λa b x y hab hx hy e=>?_) (λx e=>?_) λa b x y hab hx hy e=>?_
 ·have:=asc_getR h hab hx hy
  simp[ltR]at e ⊢;omega
 ·simp[eqR]at e;simp[ltR];omega
 ·have:=asc_getR h hab hx hy
  simp[eqR]at e;simp[ltR];omega
theorem unkL_any{t:Tpl}(h:t.rs.Pairwise λx y=>x.id<y.id):(t.ls.any λy=>unkL y t)=true↔¬∀l∈t.ls,has5 t l.a=true∧has5 t l.b=true:=by
 have key:∀l:Lnk,unkL l t=true↔¬(has5 t l.a=true∧has5 t l.b=true):=λl=>by
  unfold unkL unkB
  rw[(hitR_any h l.a).1,(hitR_any h l.b).1]
  show(!has5 t l.a || !has5 t l.b)=true↔_
  cases has5 t l.a<;>cases has5 t l.b<;>simp
 rw[List.any_eq_true]
 constructor
 ·rintro⟨x,hx,e⟩ q
  exact(key x).mp e (q x hx)
 ·intro q
  exact Classical.byContradiction λq2=>q λx hx=>Classical.byContradiction λr=>q2 ⟨x,hx,(key x).mpr r⟩
def chkP_a(t:Tpl):Prop:=okL [.agg [.sl 2 (t.rs.map Rtr.v) false,.sl 5 (t.ls.map Lnk.v) false]]
def chkP_n0(t:Tpl)(t0:Bool):NF:=⟨[(1,.k,.ref 0 0),(6,.k,.bool t0)],[.box (.agg [.sl 2 (t.rs.map Rtr.v) false,.sl 5 (t.ls.map Lnk.v) false])]⟩
def chkP_n1(t:Tpl)(t1:Int):NF:=⟨[(1,.k,.ref 0 0),(23,.k,.int ((t.rs.map Rtr.v).length:Int)),(24,.k,.int t1)],[.box (.agg [.sl 2 (t.rs.map Rtr.v) false,.sl 5 (t.ls.map Lnk.v) false])]⟩
def chkP_n2(t:Tpl)(t1:Int)(t2:Bool):NF:=⟨[(1,.k,.ref 0 0),(23,.k,.int ((t.rs.map Rtr.v).length:Int)),(24,.k,.int t1),(44,.k,.bool t2)],[.box (.agg [.sl 2 (t.rs.map Rtr.v) false,.sl 5 (t.ls.map Lnk.v) false])]⟩
def chkP_n3(t:Tpl)(t3:Int):NF:=⟨[(1,.k,.ref 0 0),(62,.k,.int ((t.ls.map Lnk.v).length:Int)),(63,.k,.int t3)],[.box (.agg [.sl 2 (t.rs.map Rtr.v) false,.sl 5 (t.ls.map Lnk.v) false])]⟩
def chkP_n4(t:Tpl)(t3:Int)(t4:Bool):NF:=⟨[(1,.k,.ref 0 0),(62,.k,.int ((t.ls.map Lnk.v).length:Int)),(63,.k,.int t3),(82,.k,.bool t4)],[.box (.agg [.sl 2 (t.rs.map Rtr.v) false,.sl 5 (t.ls.map Lnk.v) false])]⟩
@[reducible] def chkP_s:Nat→Type
 | 0=>Bool
 | 1=>Int
 | 2=>Bool
 | 3=>Int
 | 4=>Bool
 | _=>Unit
def chkP_e(r:Int):AV:=.int r
def chkP_x(t:Tpl)(I0:Bool→Prop)(I1:Bool→Int→Prop)(m1:Bool→Int→Nat)(I2:Bool→Int→Bool→Prop)(I3:Bool→Int→Int→Prop)(m3:Bool→Int→Int→Nat)(I4:Bool→Int→Int→Bool→Prop):Ax Tryz.prog chkP_s (Int):=
 (.pass (.pass (.join 0 (chkP_n0 t) (λ(t0:Bool)=>I0 t0) (λb0=>(.br 112 (decide (24<((t.rs.map Rtr.v).length:Int))) (.bk 0 b0 ((true):Bool) [0])
(.bk 0 b0 ((decide (60<((t.ls.map Lnk.v).length:Int))):Bool) [0]))) λ(t0:Bool) =>
(.br 1 t0 (.ret (3))
(.callP (rngBA_c t.rs)
(.br 65 ((t.rs).any rngB) (.ret (2))
(.loop 1 (chkP_n1 t) (I1 t0) (m1 t0) ((0):Int) [0] λ(t1:Int) b1 =>
(.br 17 (decide (t1<((t.rs.map Rtr.v).length:Int))) (.pass (.pass (.join 2 (chkP_n2 t t1) (λ(t2:Bool)=>I2 t0 t1 t2) (λb2=>(.br 97 (decide (0<t1)) (.elI 161 Rtr.v t.rs (W (t1-1)) λx1 =>
(.elI 257 Rtr.v t.rs t1 λx2 =>
(.bk 2 b2 ((decide (x2.id≤x1.id)):Bool) [0])))
(.bk 2 b2 ((false):Bool) [0]))) λ(t2:Bool) =>
(.br 1 t2 (.ret (25))
(.bk 1 b1 ((W (t1+1)):Int) [0])))))
(.callP (cstBA_c t.ls)
(.br 129 ((t.ls).any cstB) (.ret (2))
(.handQ 0 (unk_m t) [0,33] ((unk_n t ((t).ls.any λy=>unkL y t)).st) unk_c ((t).rs.length≤1000000) (unk_h t)
(.br 1 (t.ls.any λy=>unkL y t) (.ret (4))
(.callP (aleBA_c t.ls)
(.br 65 ((t.ls).any aleB) (.ret (8))
(.loop 3 (chkP_n3 t) (I3 t0 t1) (m3 t0 t1) ((0):Int) [0] λ(t3:Int) b3 =>
(.br 17 (decide (t3<((t.ls.map Lnk.v).length:Int))) (.pass (.pass (.join 4 (chkP_n4 t t3) (λ(t4:Bool)=>I4 t0 t1 t3 t4) (λb4=>(.br 97 (decide (0<t3)) (.elI 161 Lnk.v t.ls (W (t3-1)) λx3 =>
(.elI 241 Lnk.v t.ls t3 λx4 =>
(.callP (cmpL_c x3 x4)
(.bk 4 b4 ((decide (0≤(cmpL x3 x4))):Bool) [0]))))
(.bk 4 b4 ((false):Bool) [0]))) λ(t4:Bool) =>
(.br 1 t4 (.ret (25))
(.bk 3 b3 ((W (t3+1)):Int) [0])))))
(.ret (0))))))))))))))))))
def chkP_vc(t:Tpl)(I0:Bool→Prop)(I1:Bool→Int→Prop)(m1:Bool→Int→Nat)(I2:Bool→Int→Bool→Prop)(I3:Bool→Int→Int→Prop)(m3:Bool→Int→Int→Nat)(I4:Bool→Int→Int→Bool→Prop)(r0:Int):Prop:=(chkP_x t I0 I1 m1 I2 I3 m3 I4).vp chkP_e r0
theorem chkP_p(t:Tpl)(ok:chkP_a t):∃I0 I1 m1 I2 I3 m3 I4,chkP_vc t I0 I1 m1 I2 I3 m3 I4 (chk5 t):=by
 refine⟨λb=>b=decide (24<t.rs.length∨60<t.ls.length),λ_ i=>ForC t.rs (λx y=>x.id<y.id) i,λ_ i=>t.rs.length-i.toNat,
  λ_ i b=>b=true↔0<i∧∃x y,t.rs[(W (i-1)).toNat]?=some x∧t.rs[i.toNat]?=some y∧¬x.id<y.id,λ_ _ i=>ForC t.ls lnkL i,λ_ _ i=>t.ls.length-i.toNat,
  λ_ _ i b=>b=true↔0<i∧∃x y,t.ls[(W (i-1)).toNat]?=some x∧t.ls[i.toNat]?=some y∧¬lnkL x y,?_⟩
 simp only[chkP_a,okU,Blk.ok,plainV,List.length_map]at ok
 dsimp only[chkP_vc,chkP_x,chkP_s,Ax.vp,Ax.vc];simp only[vcU,rfU,List.length_map]
 refine⟨⟨λc=>(decide_eq_true (.inl (by omega))).symm,λc=>decide_eq_decide.mpr (by omega)⟩,?_⟩
 rintro _ rfl
 unfold chk5
 refine⟨λc=>by rw[if_pos (of_decide_eq_true c)],λc=>?_⟩
 have c:=of_decide_eq_false c
 rw[if_neg c]
 refine⟨λd=>by rw[if_pos ((rngB_any _).mp d)],λd=>?_⟩
 have d:∀x∈t.rs,1≤x.id∧x.id≤99:=Classical.byContradiction λq=>by rw[(rngB_any _).mpr q]at d;cases d
 rw[if_neg (not_not_intro d)]
 refine⟨ForC.zero,λi h=>⟨λc1=>⟨⟨λh0=>?_,λh0=>?_⟩,λb hb=>?_⟩,λc1=>?_⟩⟩
 ·obtain⟨g1,g2⟩:=h.rng (by omega) h0 c1
  refine⟨g1,g2,λx hx=>⟨h.idx,c1,λy hy=>⟨λe=>⟨h0,x,y,hx,hy,by omega⟩,?_⟩⟩⟩
  rintro⟨_,x',y',hx',hy',p⟩
  rw[hx]at hx';cases hx';rw[hy]at hy';cases hy';omega
 ·exact⟨nofun,λe=>absurd e.1 h0⟩
 ·obtain⟨n1,n2⟩:=h.next (by omega) c1 hb
  exact⟨λe=>by rw[if_pos (n1 e)],n2⟩
 have hP:=h.done c1 λ_ _ _ q r=>Int.lt_trans q r
 rw[if_neg (not_not_intro hP)]
 refine⟨λe=>by rw[if_pos ((cstB_any _).mp e)],λe=>?_⟩
 have e:∀x∈t.ls,lnkR x:=Classical.byContradiction λq=>by rw[(cstB_any _).mpr q]at e;cases e
 rw[if_neg (not_not_intro e)]
 refine⟨by omega,λf=>by rw[if_pos ((unkL_any hP).mp f)],λf=>?_⟩
 have f:∀l∈t.ls,has5 t l.a=true∧has5 t l.b=true:=Classical.byContradiction λq=>by rw[(unkL_any hP).mpr q]at f;cases f
 rw[if_neg (not_not_intro f)]
 refine⟨λg=>by rw[if_pos ((aleB_any _).mp g)],λg=>?_⟩
 have g:∀x∈t.ls,x.a<x.b:=Classical.byContradiction λq=>by rw[(aleB_any _).mpr q]at g;cases g
 rw[if_neg (not_not_intro g)]
 refine⟨ForC.zero,λi h=>⟨λc1=>⟨⟨λh0=>?_,λh0=>?_⟩,λb hb=>?_⟩,λc1=>?_⟩⟩
 ·obtain⟨g1,g2⟩:=h.rng (by omega) h0 c1
  refine⟨g1,g2,λx hx=>⟨h.idx,c1,λy hy=>⟨λe=>⟨h0,x,y,hx,hy,λq=>by have:=(cmpL_lt x y).mpr q;omega⟩,?_⟩⟩⟩
  rintro⟨_,x',y',hx',hy',p⟩
  rw[hx]at hx';cases hx';rw[hy]at hy';cases hy'
  exact Classical.byContradiction λq=>p ((cmpL_lt x y).mp (by omega))
 ·exact⟨nofun,λe=>absurd e.1 h0⟩
 ·obtain⟨n1,n2⟩:=h.next (by omega) c1 hb
  exact⟨λe=>by rw[if_pos (n1 e)],n2⟩
 ·rw[if_neg (not_not_intro (h.done c1 λ_ _ _ q r=>by unfold lnkL at *;omega))]
def chkP_c(t:Tpl):PC Tryz.prog:=⟨149,[(.a [(.s 2),(.s 5)])],[.agg [.sl 2 (t.rs.map Rtr.v) false,.sl 5 (t.ls.map Lnk.v) false]],chkP_e (chk5 t),PSpec.of_ok λok=>(chkP_p t ok).elim λI0 h=>h.elim λI1 h=>h.elim λm1 h=>h.elim λI2 h=>h.elim λI3 h=>h.elim λm3 h=>h.elim λI4 h=>mxP_of (sh:=.k) (enc:=chkP_e) (a:=(chkP_x t I0 I1 m1 I2 I3 m3 I4).an) h (by kernel_rfl) (AV.pureB_ok rfl),fnB_ok (by kernel_rfl)⟩
def valP(t:Tpl):Bool:=chk5 t==0
def valP_a(t:Tpl):Prop:=okL [.agg [.sl 2 (t.rs.map Rtr.v) false,.sl 5 (t.ls.map Lnk.v) false]]
def valP_e(r:Bool):AV:=.bool r
def valP_x(t:Tpl):Ax Tryz.prog noS (Bool):=
 (.callP (chkP_c t)
(.ret ((chk5 t)==0)))
def valP_vc(t:Tpl)(r0:Bool):Prop:=(valP_x t).vp valP_e r0
theorem valP_p(t:Tpl)(ok:valP_a t):valP_vc t (valP t):=by
 dsimp only[valP_vc,valP_x,noS,Ax.vp,Ax.vc];simp only[vcU,rfU,List.length_map]
 rfl
def valP_c(t:Tpl):PC Tryz.prog:=⟨119,[(.a [(.s 2),(.s 5)])],[.agg [.sl 2 (t.rs.map Rtr.v) false,.sl 5 (t.ls.map Lnk.v) false]],valP_e (valP t),PSpec.of_ok λok=>mxP_of (sh:=.k) (enc:=valP_e) (a:=(valP_x t).an) (valP_p t ok) (by kernel_rfl) (AV.pureB_ok rfl),fnB_ok (by kernel_rfl)⟩
def Fr(i:Nat):Nat:=1000+i
theorem Fr_lo{i b:Nat}(hb:b<1000):(Fr i=b)=False:=by unfold Fr;simp;omega
theorem Fr_lo'{i b:Nat}(hb:b<1000):(b=Fr i)=False:=by unfold Fr;simp;omega
theorem Fr_hi{i b:Nat}(hi:i<1000)(hb:2000≤b):(Fr i=b)=False:=by unfold Fr;simp;omega
theorem Fr_inj{i j:Nat}:(Fr i=Fr j)=(i=j):=by unfold Fr;simp
def fmPi(bs fs:Nat→Nat)(b:Nat):Nat:=if 1000≤b∧b<2000 then fs (b-1000)else bs b
theorem fmPi_F{bs fs:Nat→Nat}{i:Nat}(h:i<1000):fmPi bs fs (Fr i)=fs i:=by unfold fmPi Fr;rw[if_pos (by omega),show 1000+i-1000=i by omega]
theorem fmPi_lo{bs fs:Nat→Nat}{b:Nat}(h:b<1000):fmPi bs fs b=bs b:=if_neg (by omega)
section
variable {ρ : Type} (kk : Nat) (v : ρ → AV)
def GR(rows:List (List ρ))(h:Hp):Hp:=λb=>if 1000≤b∧b<2000 then(rows[b-1000]?).map (λr=>Blk.vec kk (r.map v))else h b
variable {kk v}
theorem GR_lo{rows:List (List ρ)}{h:Hp}{b:Nat}(hb:b<1000):GR kk v rows h b=h b:=if_neg (by omega)
theorem GR_F{rows:List (List ρ)}{h:Hp}{i:Nat}{r:List ρ}(hr:rows[i]?=some r)(hl:rows.length≤1000):GR kk v rows h (Fr i)=some (.vec kk (r.map v)):=by
 have:i<rows.length:=(List.getElem?_eq_some_iff.mp hr).1
 unfold GR Fr
 rw[if_pos (by omega),show 1000+i-1000=i by omega,hr];rfl
theorem Weak.nfR(hpu:∀x,(v x).pureB=true){k n:Nat}{tm:Nat→AV}{hp:Hp}{nx:Nat}(rows:List (List ρ))(ts:List (Nat×AV))(hs:List (Option Blk))(bs fs:Nat→Nat)
    (hT:∀p∈ts,tm p.1=p.2.ren (fmPi bs fs)∧p.2.bel 2000) (hH:∀i x,hs[i]?=some (some x)→hp (bs i)=some (x.ren (fmPi bs fs))∧x.bel 2000)
    (hl:hs.length≤1000) (hr:rows.length≤1000) (hR:∀i r,rows[i]?=some r→hp (fs i)=some (.vec kk (r.map v)))
    (h1:∀i j,i<hs.length→j<hs.length→bs i=bs j→i=j) (h2:∀i j,i<rows.length→j<rows.length→fs i=fs j→i=j) (h3:∀i j,i<hs.length→j<rows.length→bs i≠fs j)
    (hk:∀b,b<k→bs b=b) (hkl:k≤1000):Weak k n ⟨tm,hp,nx⟩ ⟨resT ts,GR kk v rows (hpL 0 hs),2000⟩:=by
  have pur:∀r:List ρ,pureL (r.map v):=λr=>pureBL_ok (pureBL_map hpu r)
  have low:∀{b x},hpL 0 hs b=some x→hs[b]?=some (some x):=λ{b x} e=>by
    rw[hpL_eq,if_pos (Nat.zero_le _),Nat.sub_zero]at e
    cases e':hs[b]? with
    | none=>rw[e']at e;cases e
    | some y=>rw[e']at e;exact congrArg some e
  have cls:∀{b x},GR kk v rows (hpL 0 hs) b=some x→(∃i r,b=Fr i∧i<rows.length∧rows[i]?=some r∧x=.vec kk (r.map v))∨(b<hs.length∧hs[b]?=some (some x)):=λ{b x} e=>by
    unfold GR at e
    split at e
    · rename_i hb
      obtain⟨r,hr,rfl⟩:=Option.map_eq_some_iff.mp e
      exact .inl ⟨b-1000,r,by unfold Fr;omega,(List.getElem?_eq_some_iff.mp hr).1,hr,rfl⟩
    · have:=low e
      exact .inr ⟨(List.getElem?_eq_some_iff.mp this).1,this⟩
  refine Weak.ren (fmPi bs fs) (λt=>?_) (λb x e=>?_) (λb b' e e' he=>?_) (λb hb=>?_) (by show k≤2000;omega)
  · show resT ts t=.unk∨(tm t=(resT ts t).ren _∧(resT ts t).bel 2000)
    clear hH hR h1 h2 h3 cls low hl
    induction ts with
    | nil=>exact .inl rfl
    | cons p l ih =>
      obtain⟨t',x⟩:=p
      by_cases ht:t=t'
      · subst ht
        have:=hT (t,x) (by simp)
        simp only[resT,↓reduceIte]
        exact .inr this
      · have:=ih (λp hp=>hT p (by simp[hp]))
        simp only[resT,if_neg ht]
        exact this
  · show b<2000∧hp (fmPi bs fs b)=some (x.ren (fmPi bs fs))∧x.bel 2000
    rcases cls e with⟨i,r,rfl,hi,hr',rfl⟩|⟨hb,e⟩
    · refine⟨by unfold Fr;omega,?_,belL_pure (pur r)⟩
      rw[fmPi_F (by omega),hR i r hr',Blk.ren,renL_pure _ (pur r)]
    · obtain⟨g1,g2⟩:=hH b x e
      exact⟨by omega,by rw[fmPi_lo (by omega)];exact g1,g2⟩
  · have c1:∀{b},GR kk v rows (hpL 0 hs) b≠none→(∃i,b=Fr i∧i<rows.length)∨b<hs.length:=λ{b} e=>by
      cases q:GR kk v rows (hpL 0 hs) b with
      | none=>exact absurd q e
      | some x => rcases cls q with ⟨i, r, g1, g2, _⟩ | ⟨g, _⟩
                  · exact .inl ⟨i,g1,g2⟩
                  · exact .inr g
    rcases c1 e with⟨i,rfl,hi⟩|hb<;>rcases c1 e' with⟨j,rfl,hj⟩|hb'
    · rw[fmPi_F (by omega),fmPi_F (by omega)]at he
      rw[h2 i j hi hj he]
    · rw[fmPi_F (by omega),fmPi_lo (by omega)]at he
      exact absurd he.symm (h3 b' i hb' hi)
    · rw[fmPi_lo (by omega),fmPi_F (by omega)]at he
      exact absurd he (h3 b j hb hj)
    · rw[fmPi_lo (by omega),fmPi_lo (by omega)]at he
      exact h1 b b' hb hb' he
  · rw[fmPi_lo (by omega)];exact hk b hb
end
theorem Weak.nilvecM{k n:Nat}{tm:Nat→AV}{hp:Hp}{nx:Nat}{kq:Option Nat}{ks:List MK}{vs:List AV}(b0 i kk k':Nat)(hb:hp b0=some (.map kq ks vs))(h:vs[i]?=some (.sl kk [] true))(hk:k≤nx) :
  Weak k n ⟨tm,hp,nx⟩ ⟨tm,upd (upd hp b0 (some (.map kq ks (vs.set i (.vec nx))))) nx (some (.vec k' [])),nx+1⟩:=by
 rintro P c a w ⟨h0,A,μ,H⟩
 obtain⟨hd0,q1,⟨q2,ents,ck,q3,q4,q5,q6⟩,q8⟩:=H.blk b0 _ hb
 have hi:i<vs.length:=(List.getElem?_eq_some_iff.mp h).1
 have hv0:=(RVL.length q5)
 obtain⟨vi,hvi⟩:∃vi,(ents.toList.map (·.val))[i]?=some vi:=⟨(ents.toList.map (·.val))[i]'(by omega),List.getElem?_eq_getElem (by omega)⟩
 obtain⟨ad,hv⟩:=RV.nilsl (RVL.get2 q5 h hvi)
 obtain⟨f1,f2⟩:μ nx=none∧hp nx=none:=H.fr nx (Nat.le_refl _)
 let hd:Hd:=⟨some ad,0,k',0,0⟩
 have hne:b0≠nx:=λe=>by subst e;rw[f2]at hb;cases hb
 have hle:MuLe μ (upd μ nx (some hd)):=by
  intro b hd' e
  by_cases g:b=nx
  ·subst g;rw[f1]at e;cases e
  ·rw[upd_ne _ _ g];exact e
 have key:=H.add nx f2 (upd μ nx (some hd)) hle (λb hb=>upd_ne _ _ hb) hd (upd_same _ _ _) (.vec k' []) ⟨rfl,.inl ⟨rfl,rfl⟩⟩ (λe=>by cases e) (λ_ _ _ _ _ _ e=>by cases e)
 have hswap:upd (upd hp b0 (some (.map kq ks (vs.set i (.vec nx))))) nx (some (.vec k' []))=upd (upd hp nx (some (.vec k' []))) b0 (some (.map kq ks (vs.set i (.vec nx)))):=by
  funext b
  by_cases e1:b=b0
  ·subst e1;rw[upd_same,upd_ne _ _ hne,upd_same]
  ·rw[upd_ne _ _ e1]
   by_cases e2:b=nx
   ·subst e2;rw[upd_same,upd_same]
   ·rw[upd_ne _ _ e2,upd_ne _ _ e1,upd_ne _ _ e2]
 rw[hswap]
 have hb1:upd hp nx (some (.vec k' [])) b0=some (.map kq ks vs):=by rw[upd_ne _ _ hne];exact hb
 have fin:=key.say hb1 (y:=.map kq ks (vs.set i (.vec nx))) λhd1 e1 e2=>by
  obtain⟨r2,ents',ck',r3,r4,r5,r6⟩:=e2
  rw[hle _ _ q1]at e1;cases e1
  rw[q3]at r3;cases r3
  refine⟨r2,ents,ck,q3,q4,RVL.setAt r5 hvi ⟨hd,upd_same _ _ _,hv⟩,λx hx=>?_⟩
  rcases List.mem_or_eq_of_mem_set hx with hx|rfl
  ·exact q6 x hx
  ·rfl
 exact⟨h0,A,upd μ nx (some hd),fin.free λb hb=>⟨show nx≤b by have:nx+1≤b:=hb;omega,by have:nx+1≤b:=hb;omega⟩⟩
def relx(cost:Int)(out:Dis)(op:Dis)(s:Stp):Dis:=
 if mhas out s.to=true then op else if(mhas op s.to=false∨W (cost+s.cost)<mval op s.to 0)then mput op s.to (W (cost+s.cost))else op
def dijN(L:Lks):Nat→Dis→Dis→Dis
 | 0,out,_=>out
 | n+1,out,op=>if op=[]then out else
   if(mput out (bst op) (mval op (bst op) 0)).length=L.length then mput out (bst op) (mval op (bst op) 0)
   else dijN L n (mput out (bst op) (mval op (bst op) 0)) ((mval L (bst op) []).foldl (relx (mval op (bst op) 0) (mput out (bst op) (mval op (bst op) 0))) (mdl op (bst op)))
def dijT(L:Lks)(f:Int):Dis:=if mhas L f=true then dijN L L.length [] (mput [] f 0)else []
def okLks(L:Lks):Prop:=L.length≤1000000∧(mkeys L).Nodup∧(∀x∈mkeys L,x≠0∧-9223372036854775808≤x∧x≤9223372036854775807)∧∀p∈L,p.2.length≤1000000∧∀s∈p.2,s.to∈mkeys L
structure DInv (L:Lks) (out op:Dis):Prop where
  no:(mkeys out).Nodup
  np:(mkeys op).Nodup
  ko:∀x∈mkeys out,x∈mkeys L
  kp:∀x∈mkeys op,x∈mkeys L
  di:∀x∈mkeys op,x ∉ mkeys out
theorem mkeys_len{α β:Type}(l:List (α×β)):(mkeys l).length=l.length:=List.length_map _
theorem DInv.len1{L:Lks}{out op:Dis}(h:DInv L out op):out.length≤L.length:=by
 have:=List.Nodup.length_le_of_subset h.no h.ko
 rwa [mkeys_len,mkeys_len]at this
theorem DInv.len2{L:Lks}{out op:Dis}(h:DInv L out op):op.length≤L.length:=by
 have:=List.Nodup.length_le_of_subset h.np h.kp
 rwa [mkeys_len,mkeys_len]at this
theorem bst_in{op:Dis}(h:op≠[]):∃c,(bst op,c)∈op∧∀x∈op,¬bfr x (bst op,c):=by
 obtain⟨b,h1,h2,h3⟩:=bstE_spec h
 have:bst op=b.1:=by unfold bst;rw[h1]
 rw[this]
 exact⟨b.2,h2,h3⟩
theorem bst_key{op:Dis}(h:op≠[]):bst op∈mkeys op:=by
 obtain⟨c,h1,_⟩:=bst_in h
 exact mkeys_mem.mpr ⟨c,h1⟩
theorem DInv.pop{L:Lks}{out op:Dis}(h:DInv L out op){b c:Int}(hb:b∈mkeys op):DInv L (mput out b c) (mdl op b)∧(mput out b c).length=out.length+1:=by
 have hbo:=h.di b hb
 refine⟨⟨mput_nodup h.no,mdl_nodup h.np,λx hx=>?_,λx hx=>?_,λx hx hx2=>?_⟩,?_⟩
 ·obtain⟨v,hv⟩:=mkeys_mem.mp hx
  rcases(mput_mem h.no).mp hv with e|⟨e,_⟩
  ·cases e;exact h.kp _ hb
  ·exact h.ko _ (mkeys_mem.mpr ⟨_,e⟩)
 ·obtain⟨v,hv⟩:=mkeys_mem.mp hx
  exact h.kp _ (mkeys_mem.mpr ⟨_,((mdl_mem h.np).mp hv).1⟩)
 ·obtain⟨v,hv⟩:=mkeys_mem.mp hx
  obtain⟨v2,hv2⟩:=mkeys_mem.mp hx2
  obtain⟨q1,q2⟩:=(mdl_mem h.np).mp hv
  rcases(mput_mem h.no).mp hv2 with e|⟨e,_⟩
  ·cases e;exact q2 rfl
  ·exact h.di _ (mkeys_mem.mpr ⟨_,q1⟩) (mkeys_mem.mpr ⟨_,e⟩)
 ·rw[mput_len,if_neg]
  unfold mhas;simpa using hbo
theorem DInv.relx{L:Lks}{out op:Dis}(h:DInv L out op){c:Int}{s:Stp}(hs:s.to∈mkeys L):DInv L out (relx c out op s):=by
 unfold Go.Proofs.YtdoacjojljgdcaaGreat.relx
 split
 ·exact h
 rename_i h1
 have h1:s.to ∉ mkeys out:=by unfold mhas at h1;simpa using h1
 split
 ·refine⟨h.no,mput_nodup h.np,h.ko,λx hx=>?_,λx hx=>?_⟩
  all_goals
   obtain⟨v,hv⟩:=mkeys_mem.mp hx
   rcases(mput_mem h.np).mp hv with e|⟨e,_⟩
  ·cases e;exact hs
  ·exact h.kp _ (mkeys_mem.mpr ⟨_,e⟩)
  ·cases e;exact h1
  ·exact h.di _ (mkeys_mem.mpr ⟨_,e⟩)
 ·exact h
theorem DInv.fold{L:Lks}{out:Dis}{c:Int}:∀{l:List Stp} {op:Dis},DInv L out op→(∀s∈l,s.to∈mkeys L)→DInv L out (l.foldl (Go.Proofs.YtdoacjojljgdcaaGreat.relx c out) op)
 | [],op,h,_=>h
 | s::l,op,h,hs=>(h.relx (hs s (by simp))).fold λx hx=>hs x (by simp[hx])
def dijT_a(links:(List (Int×(List Stp))))(from_:Int):Prop:=okL [.mp none (links.map λp:Int×(List Stp)=>MK.n p.1) (links.map λp:Int×(List Stp)=>(λl:List Stp=>AV.sl 2 (l.map Stp.v) false) p.2),.int from_]
def dijT_n0(links:(List (Int×(List Stp))))(t0:(List (Int×Int))×(List (Int×Int))):NF:=⟨[(0,.k,.mp none (links.map λp:Int×(List Stp)=>MK.n p.1) (links.map λp:Int×(List Stp)=>(λl:List Stp=>AV.sl 2 (l.map Stp.v) false) p.2)),(5,.k,.mref 0),(8,.k,.mref 1)],[.map none (t0.2.map λp=>MK.n p.1) (t0.2.map λp=>AV.int p.2) (pureBL_map (λ_=>rfl) _),.map none (t0.1.map λp=>MK.n p.1) (t0.1.map λp=>AV.int p.2) (pureBL_map (λ_=>rfl) _)]⟩
def dijT_n1(links:(List (Int×(List Stp))))(t0:(List (Int×Int))×(List (Int×Int)))(t1:Int×(List (Int×Int))):NF:=⟨[(0,.k,.mp none (links.map λp:Int×(List Stp)=>MK.n p.1) (links.map λp:Int×(List Stp)=>(λl:List Stp=>AV.sl 2 (l.map Stp.v) false) p.2)),(5,.k,.mref 0),(8,.k,.mref 1),(12,.k,.int (mval t0.1 (bst t0.1) 0)),(79,.k,.sl 2 ((mval links (bst t0.1) []).map Stp.v) false),(80,.k,.int (((mval links (bst t0.1) []).map Stp.v).length:Int)),(81,.k,.int t1.1)],[.map none ((mput t0.2 (bst t0.1) (mval t0.1 (bst t0.1) 0)).map λp=>MK.n p.1) ((mput t0.2 (bst t0.1) (mval t0.1 (bst t0.1) 0)).map λp=>AV.int p.2) (pureBL_map (λ_=>rfl) _),.map none (t1.2.map λp=>MK.n p.1) (t1.2.map λp=>AV.int p.2) (pureBL_map (λ_=>rfl) _)]⟩
def dijT_n2(links:(List (Int×(List Stp))))(t0:(List (Int×Int))×(List (Int×Int)))(t1:Int×(List (Int×Int)))(x1:Stp)(t2:Bool):NF:=⟨[(0,.k,.mp none (links.map λp:Int×(List Stp)=>MK.n p.1) (links.map λp:Int×(List Stp)=>(λl:List Stp=>AV.sl 2 (l.map Stp.v) false) p.2)),(5,.k,.mref 0),(8,.k,.mref 1),(12,.k,.int (mval t0.1 (bst t0.1) 0)),(14,.k,.ref 2 0),(79,.k,.sl 2 ((mval links (bst t0.1) []).map Stp.v) false),(80,.k,.int (((mval links (bst t0.1) []).map Stp.v).length:Int)),(81,.k,.int t1.1),(109,.k,.bool t2)],[.map none ((mput t0.2 (bst t0.1) (mval t0.1 (bst t0.1) 0)).map λp=>MK.n p.1) ((mput t0.2 (bst t0.1) (mval t0.1 (bst t0.1) 0)).map λp=>AV.int p.2) (pureBL_map (λ_=>rfl) _),.map none (t1.2.map λp=>MK.n p.1) (t1.2.map λp=>AV.int p.2) (pureBL_map (λ_=>rfl) _),.box (.agg [.int x1.to,.int x1.cost])]⟩
@[reducible] def dijT_s:Nat→Type
 | 0=>(List (Int×Int))×(List (Int×Int))
 | 1=>Int×(List (Int×Int))
 | 2=>Bool
 | _=>Unit
def dijT_e(r:(List (Int×Int))):AV:=.mp none (r.map λp:Int×Int=>MK.n p.1) (r.map λp:Int×Int=>AV.int p.2)
def dijT_x(links:(List (Int×(List Stp))))(from_:Int)(I0:((List (Int×Int))×(List (Int×Int)))→Prop)(m0:((List (Int×Int))×(List (Int×Int)))→Nat)(I1:(List (Int×Int))×(List (Int×Int))→(Int×(List (Int×Int)))→Prop)(m1:(List (Int×Int))×(List (Int×Int))→(Int×(List (Int×Int)))→Nat)(I2:(List (Int×Int))×(List (Int×Int))→Int×(List (Int×Int))→Stp→Bool→Prop):Ax Tryz.prog dijT_s ((List (Int×Int))):=
 (.mn 80 (mnGetB false (λl:List Stp=>AV.sl 2 (l.map Stp.v) false) links from_ []) (.br 80 (mhas links from_) (.mn 240 (mnPutI AV.int ([]:List (Int×Int)) from_ 0) (.loop 0 (dijT_n0 links) I0 m0 (mput ([]:List (Int×Int)) from_ 0,([]:List (Int×Int))) [16,208] λ(t0:(List (Int×Int))×(List (Int×Int))) b0 =>
(.say (ck (decide ((t0.1.map λp=>MK.n p.1).length≤maxLen))) (.br 50 (decide (0<((t0.1.map λp=>MK.n p.1).length:Int))) (.pass (.handQ 0 (dst_m links t0.2 t0.1 0) [0,1] ((dst_m links t0.2 t0.1 (bst t0.1)).st) dst_c (okOpen t0.1) (dst_h links t0.2 t0.1)
(.mn 34 (mnGetI AV.int t0.1 (bst t0.1) 0) (.mn 98 (mnDelI AV.int t0.1 (bst t0.1)) (.mn 162 (mnPutI AV.int t0.2 (bst t0.1) (mval t0.1 (bst t0.1) 0)) (.say (λR=>ck (decide (((mput t0.2 (bst t0.1) (mval t0.1 (bst t0.1) 0)).map λp=>MK.n p.1).length≤maxLen))
((ck (decide ((links.map λp=>MK.n p.1).length≤maxLen))
R))) (.br 258 ((((mput t0.2 (bst t0.1) (mval t0.1 (bst t0.1) 0)).map λp=>MK.n p.1).length:Int)==((links.map λp=>MK.n p.1).length:Int)) (.say (Rf ((mput t0.2 (bst t0.1) (mval t0.1 (bst t0.1) 0)).map λp=>AV.int p.2)) (.cmdL (.frzM 0 ((mput t0.2 (bst t0.1) (mval t0.1 (bst t0.1) 0)).map λp=>AV.int p.2) (pureBL_map (λ_=>rfl) _)) (.ret (mput t0.2 (bst t0.1) (mval t0.1 (bst t0.1) 0)))))
(.mn 290 (mnGetB true (λl:List Stp=>AV.sl 2 (l.map Stp.v) false) links (bst t0.1) []) (.say (ck (mhas links (bst t0.1))) (.loop 1 (dijT_n1 links t0) (I1 t0) (m1 t0) (0,mdl t0.1 (bst t0.1)) [0,1] λ(t1:Int×(List (Int×Int))) b1 =>
(.br 18 (decide (t1.1<(((mval links (bst t0.1) []).map Stp.v).length:Int))) (.elI 18 Stp.v (mval links (bst t0.1) []) t1.1 λx1 =>
(.mn 130 (mnGetI AV.int (mput t0.2 (bst t0.1) (mval t0.1 (bst t0.1) 0)) x1.to 0) (.br 242 (mhas (mput t0.2 (bst t0.1) (mval t0.1 (bst t0.1) 0)) x1.to) (.bk 1 b1 (W (t1.1+1),t1.2) [0,1])
(.mn 290 (mnGetI AV.int t1.2 x1.to 0) (.join 2 (dijT_n2 links t0 t1 x1) (λ(t2:Bool)=>I2 t0 t1 x1 t2) (λb2=>(.br 434 (!(mhas t1.2 x1.to)) (.bk 2 b2 ((true):Bool) [0,1,50])
(.bk 2 b2 ((decide ((W ((mval t0.1 (bst t0.1) 0)+x1.cost))<(mval t1.2 x1.to 0))):Bool) [0,1,50]))) λ(t2:Bool) =>
(.br 3 t2 (.mn 115 (mnPutI AV.int t1.2 x1.to (W ((mval t0.1 (bst t0.1) 0)+x1.cost))) (.bk 1 b1 (W (t1.1+1),mput t1.2 x1.to (W ((mval t0.1 (bst t0.1) 0)+x1.cost))) [0,1]))
(.bk 1 b1 (W (t1.1+1),t1.2) [0,1])))))))
(.bk 0 b0 (t1.2,mput t0.2 (bst t0.1) (mval t0.1 (bst t0.1) 0)) [0,1]))))))))))))
(.say (Rf (t0.2.map λp=>AV.int p.2)) (.cmdL (.frzM 0 (t0.2.map λp=>AV.int p.2) (pureBL_map (λ_=>rfl) _)) (.ret (t0.2))))))))
(.say (Rf (([]:List (Int×Int)).map λp=>AV.int p.2)) (.cmdL (.frzM 16 (([]:List (Int×Int)).map λp=>AV.int p.2) (pureBL_map (λ_=>rfl) _)) (.ret (([]:List (Int×Int))))))))
def dijT_vc(links:(List (Int×(List Stp))))(from_:Int)(I0:((List (Int×Int))×(List (Int×Int)))→Prop)(m0:((List (Int×Int))×(List (Int×Int)))→Nat)(I1:(List (Int×Int))×(List (Int×Int))→(Int×(List (Int×Int)))→Prop)(m1:(List (Int×Int))×(List (Int×Int))→(Int×(List (Int×Int)))→Nat)(I2:(List (Int×Int))×(List (Int×Int))→Int×(List (Int×Int))→Stp→Bool→Prop)(r0:(List (Int×Int))):Prop:=(dijT_x links from_ I0 m0 I1 m1 I2).vp dijT_e r0
theorem dijT_p(L:Lks)(f:Int)(h:okLks L)(ok:dijT_a L f):∃I0 m0 I1 m1 I2,dijT_vc L f I0 m0 I1 m1 I2 (dijT L f):=by
 obtain⟨h1,h2,h3,h4⟩:=h
 have hml:=maxLen_eq
 refine⟨λt=>DInv L t.2 t.1∧t.2.length<L.length∧dijN L (L.length-t.2.length) t.2 t.1=dijT L f,λt=>L.length-t.2.length,
  λt0 t=>ForG (mval L (bst t0.1) []) (relx (mval t0.1 (bst t0.1) 0) (mput t0.2 (bst t0.1) (mval t0.1 (bst t0.1) 0))) (mdl t0.1 (bst t0.1)) t.1 t.2,λt0 t=>(mval L (bst t0.1) []).length-t.1.toNat,
  λt0 t x b=>b=decide (mhas t.2 x.to=false∨W (mval t0.1 (bst t0.1) 0+x.cost)<mval t.2 x.to 0),?_⟩
 dsimp only[dijT_vc,dijT_x,dijT_s,Ax.vp,Ax.vc];simp only[vcU,rfU,List.length_map]
 refine⟨λc=>⟨?_,?_⟩,λc=>by rw[dijT,if_neg (by rw[c];simp)]⟩
 ·have hf:f∈mkeys L:=of_decide_eq_true c
  have h0:0<L.length:=by rw[←mkeys_len];exact List.length_pos_of_mem hf
  refine⟨⟨by simp[mkeys],by simp[mput,mkeys],by simp[mkeys],by simp[mput,mkeys];simpa[mkeys]using hf,by simp[mkeys]⟩,h0,by rw[dijT,if_pos c];rfl⟩
 rintro⟨op,out⟩ ⟨hI,hlt,hD⟩
 simp only at hI hlt hD ⊢
 have q1:=hI.len1
 have q2:=hI.len2
 obtain⟨n,hn⟩:∃n,L.length-out.length=n+1:=⟨L.length-out.length-1,by omega⟩
 rw[hn,dijN]at hD
 refine⟨by omega,λc1=>?_,λc1=>?_⟩
 ·have hne:op≠[]:=λe=>by rw[e]at c1;simp at c1
  rw[if_neg hne]at hD
  have hb:=bst_key hne
  obtain⟨hP,hPl⟩:=hI.pop (c:=mval op (bst op) 0) hb
  have q3:=hP.len1
  refine⟨λx hx=>h3 _ (hI.kp _ (mkeys_mem.mpr ⟨x.2,hx⟩)),by omega,by omega,λc2=>?_,λc2=>?_⟩
  ·rw[if_pos (by have:=eq_of_beq c2;omega)]at hD;exact hD
  ·have c2:¬(mput out (bst op) (mval op (bst op) 0)).length=L.length:=λe=>by rw[e]at c2;simp at c2
   rw[if_neg c2]at hD
   have hbL:=hI.kp _ hb
   have hst:(mval L (bst op) []).length≤1000000∧∀s∈mval L (bst op) [],s.to∈mkeys L:=h4 _ (mval_mem (z:=[]) (decide_eq_true hbL))
   refine⟨decide_eq_true hbL,ForG.zero,?_⟩
   rintro⟨i,op2⟩ hG
   simp only at hG ⊢
   refine⟨λc3=>⟨hG.idx,c3,λx hx=>⟨λe=>?_,λe=>⟨⟨λe2=>?_,λe2=>?_⟩,?_⟩⟩⟩,λc3=>?_⟩
   ·refine hG.step (by omega) hx ?_
    rw[relx,if_pos e]
   ·rw[show mhas op2 x.to=false by simpa using e2];simp
   ·rw[show mhas op2 x.to=true by simpa using e2];simp
   ·rintro _ rfl
    refine⟨λe2=>?_,λe2=>?_⟩
    ·refine hG.step (by omega) hx ?_
     rw[relx,if_neg (by rw[e];simp),if_pos (of_decide_eq_true e2)]
    ·refine hG.step (by omega) hx ?_
     rw[relx,if_neg (by rw[e];simp),if_neg (of_decide_eq_false e2)]
   ·have hG:=hG.done c3
    have hF:=hP.fold (c:=mval op (bst op) 0) hst.2
    rw[←hG]at hF hD
    have:n=L.length-(mput out (bst op) (mval op (bst op) 0)).length:=by omega
    rw[this]at hD
    exact⟨⟨hF,by omega,hD⟩,by omega⟩
 ·have:op=[]:=List.eq_nil_of_length_eq_zero (by omega)
  rw[if_pos this]at hD
  exact hD
def dijT_c(links:(List (Int×(List Stp))))(from_:Int)(h:okLks links):PC Tryz.prog:=⟨156,[.k,.k],[.mp none (links.map λp:Int×(List Stp)=>MK.n p.1) (links.map λp:Int×(List Stp)=>(λl:List Stp=>AV.sl 2 (l.map Stp.v) false) p.2),.int from_],dijT_e (dijT links from_),PSpec.of_ok λok=>(dijT_p links from_ h ok).elim λI0 h=>h.elim λm0 h=>h.elim λI1 h=>h.elim λm1 h=>h.elim λI2 h=>mxP_of (sh:=.k) (enc:=dijT_e) (a:=(dijT_x links from_ I0 m0 I1 m1 I2).an) h (by kernel_rfl) (AV.pureB_ok rfl),fnB_ok (by kernel_rfl)⟩
theorem evA_mset{kk:Option Nat}{m k x:AO}{f:Nat}{ρ:AO→AV}{hp:Hp}:evA (.mset kk m k x) f ρ hp=match ρ m with
    | .mref b=>match hp b,(ρ k).key with
      | some (.map kk' ks vs),some q=>{ c:=kk'=kk∧q.fits kk∧(ρ x).solid=true,rm:=some b,ad:=some (b,msetA kk ks vs q (ρ x)) }
      | _,_=>.bad
    | _=>.bad:=rfl
def evN(n:Nat):List AV:=(List.range n).map λi=>.vec (Fr (2 * i))
def odN(n:Nat):List AV:=(List.range n).map λi=>.vec (Fr (2 * i+1))
def kyN(l:List Int):List MK:=l.map MK.n
def rdH(t:Tpl)(ids:List Int)(a b:List AV):List (Option Blk):=
 [some (.box (Tpl.v t)),some (.box (.agg [.val (.map none),.val (.map none)])),some (.box (.agg [.mref 3,.mref 4])),some (.map none (kyN ids) a),some (.map none (kyN ids) b)]
abbrev GS(M:List (List Stp))(h:Hp):Hp:=GR 2 Stp.v M h
def rdS(t:Tpl)(M:List (List Stp)):S3:=
 ⟨resT [(1,.ref 0 0),(2,.ref 1 0),(3,.ref 2 0)],GS M (hpL 0 (rdH t (t.rs.map (·.id)) (evN t.rs.length) (odN t.rs.length))),2000⟩
def rd_m(t:Tpl):NF:=
 ⟨[(1,.k,.ref 0 0),(2,.k,.ref 1 0),(3,.k,.ref 2 0)],[.box (Tpl.v t),.box (.agg [.val (.map none),.val (.map none)]),.box (.agg [.mref 3,.mref 4]),.map none (([]:Lks).map λp=>MK.n p.1) (([]:Lks).map λp=>(λl:List Stp=>AV.sl 2 (l.map Stp.v) false) p.2) (pureBL_map (λ_=>rfl) _),.map none (([]:Lks).map λp=>MK.n p.1) (([]:Lks).map λp=>(λl:List Stp=>AV.sl 2 (l.map Stp.v) false) p.2) (pureBL_map (λ_=>rfl) _)]⟩
def rd_c1:AC:=.seq (.reg [⟨(some 12),.faddr 0 (.t 1),none⟩,⟨(some 13),.load false 1 (.t 12),none⟩,⟨(some 14),.len (.t 13),none⟩,⟨(some 15),.move (.c (.val (.int .i64 0))),none⟩])
 (.block 0 (.loop (.seq (.reg [⟨(some 16),.bin .lss (.t 15) (.t 14),none⟩])
 (.seq (.cond (.t 16) (.skip) (.exit 0))
 (.seq (.block 1 (.seq (.reg [⟨(some 17),.iaddr 2 (.t 13) (.t 15),none⟩,⟨(some 18),.load true 2 (.t 17),none⟩,⟨(some 5),.box (.c (.agg [(.val (.int .i64 0)),(.val (.bool false))])),none⟩,⟨none,.store 2 (.t 5) (.t 18),none⟩])
 (.dreg [⟨(some 19),.faddr 0 (.t 3),none⟩,⟨(some 20),.load false 1 (.t 19),none⟩,⟨(some 21),.faddr 0 (.t 5),none⟩,⟨(some 22),.load false 1 (.t 21),none⟩,⟨(some 23),.faddr 1 (.t 3),none⟩,⟨(some 24),.load false 1 (.t 23),none⟩,⟨(some 25),.faddr 0 (.t 5),none⟩,⟨(some 26),.load false 1 (.t 25),none⟩,⟨none,.mset none (.t 20) (.t 22) (.c (.sl 0 [] true)),none⟩,⟨none,.mset none (.t 24) (.t 26) (.c (.sl 0 [] true)),none⟩] [(1,3),(1,5),(3,5),(1,7),(3,7),(5,7),(5,8),(7,8)])))
 (.reg [⟨(some 27),.bin .add (.t 15) (.c (.val (.int .i64 1))),none⟩,⟨(some 15),.move (.t 27),none⟩]))))))
theorem evN_len(n:Nat):(evN n).length=n:=by simp[evN]
theorem odN_len(n:Nat):(odN n).length=n:=by simp[odN]
theorem Stp_pure(x:Stp):x.v.pureB=true:=rfl
theorem Rtr_pureL(l:List Rtr):pureL (l.map Rtr.v):=pureBL_ok (pureBL_map (λ_=>rfl) l)
theorem belL_mem{k:Nat}:∀{xs:List AV},(∀x∈xs,x.bel k)→belL k xs
 | [],_=>trivial
 | x::xs,h=>⟨h x (by simp),belL_mem λy hy=>h y (by simp[hy])⟩
theorem evN_bel{n:Nat}(h:n≤400):belL 2000 (evN n):=belL_mem λx hx=>by
 obtain⟨i,hi,rfl⟩:=List.mem_map.mp hx
 have:=List.mem_range.mp hi
 show Fr (2 * i)<2000;unfold Fr;omega
theorem odN_bel{n:Nat}(h:n≤400):belL 2000 (odN n):=belL_mem λx hx=>by
 obtain⟨i,hi,rfl⟩:=List.mem_map.mp hx
 have:=List.mem_range.mp hi
 show Fr (2 * i+1)<2000;unfold Fr;omega
theorem evN_ren{n:Nat}(h:n≤400)(bs fs:Nat→Nat):renL (fmPi bs fs) (evN n)=(List.range n).map λi=>.vec (fs (2 * i)):=by
 rw[renL_map,evN,List.map_map]
 refine List.map_congr_left λi hi=>?_
 have:=List.mem_range.mp hi
 show AV.vec (fmPi bs fs (Fr (2 * i)))=_
 rw[fmPi_F (by omega)]
theorem odN_ren{n:Nat}(h:n≤400)(bs fs:Nat→Nat):renL (fmPi bs fs) (odN n)=(List.range n).map λi=>.vec (fs (2 * i+1)):=by
 rw[renL_map,odN,List.map_map]
 refine List.map_congr_left λi hi=>?_
 have:=List.mem_range.mp hi
 show AV.vec (fmPi bs fs (Fr (2 * i+1)))=_
 rw[fmPi_F (by omega)]
theorem rdH_F{t:Tpl}{ids:List Int}{n:Nat}{hp:Hp}{fs:Nat→Nat}{a b:List AV}(hn:n≤400)(h0:hp 0=some (.box (Tpl.v t)))(h1:hp 1=some (.box (.agg [.val (.map none),.val (.map none)])))(h2:hp 2=some (.box (.agg [.mref 3,.mref 4])))
  (h3:hp 3=some (.map none (kyN ids) a)) (h4:hp 4=some (.map none (kyN ids) b)) (ha:a=(List.range n).map λi=>.vec (fs (2 * i))) (hb:b=(List.range n).map λi=>.vec (fs (2 * i+1))) :
  ∀i x,(rdH t ids (evN n) (odN n))[i]?=some (some x)→hp ((λb=>b) i)=some (x.ren (fmPi (λb=>b) fs))∧x.bel 2000:=by
 have hr:=renL_pure (fmPi (λb=>b) fs) (Rtr_pureL t.rs)
 intro i x h
 rcases i with _|_|_|_|_|i
 ·cases h;exact⟨h0,⟨trivial,trivial,trivial⟩⟩
 ·cases h;exact⟨h1,⟨trivial,trivial,trivial⟩⟩
 ·cases h;exact⟨h2,⟨show 3<2000 by omega,show 4<2000 by omega,trivial⟩⟩
 ·cases h;exact⟨by show hp 3=_;rw[h3,Blk.ren,evN_ren hn,ha],evN_bel hn⟩
 ·cases h;exact⟨by show hp 4=_;rw[h4,Blk.ren,odN_ren hn,hb],odN_bel hn⟩
 ·simp[rdH]at h
structure Chk5 (t:Tpl):Prop where
  nr:t.rs.length≤24
  nl:t.ls.length≤60
  rg:∀x∈t.rs,1≤x.id∧x.id≤99
  asc:t.rs.Pairwise (λx y=>x.id<y.id)
  lr:∀l∈t.ls,lnkR l
  has:∀l∈t.ls,has5 t l.a=true∧has5 t l.b=true
  lt:∀l∈t.ls,l.a<l.b
  ord:t.ls.Pairwise lnkL
theorem chk5_good{t:Tpl}(h:chk5 t=0):Chk5 t:=by
 unfold chk5 at h
 by_cases a1:24<t.rs.length∨60<t.ls.length
 ·rw[if_pos a1]at h;omega
 rw[if_neg a1]at h
 by_cases a2:∀x∈t.rs,1≤x.id∧x.id≤99
 case neg=>rw[if_pos a2]at h;omega
 rw[if_neg (not_not_intro a2)]at h
 by_cases a3:t.rs.Pairwise (λx y=>x.id<y.id)
 case neg=>rw[if_pos a3]at h;omega
 rw[if_neg (not_not_intro a3)]at h
 by_cases a4:∀l∈t.ls,lnkR l
 case neg=>rw[if_pos a4]at h;omega
 rw[if_neg (not_not_intro a4)]at h
 by_cases a5:∀l∈t.ls,has5 t l.a=true∧has5 t l.b=true
 case neg=>rw[if_pos a5]at h;omega
 rw[if_neg (not_not_intro a5)]at h
 by_cases a6:∀l∈t.ls,l.a<l.b
 case neg=>rw[if_pos a6]at h;omega
 rw[if_neg (not_not_intro a6)]at h
 by_cases a7:t.ls.Pairwise lnkL
 case neg=>rw[if_pos a7]at h;omega
 exact⟨by omega,by omega,a2,a3,a4,a5,a6,a7⟩
theorem chk5_asc{t:Tpl}(h:chk5 t=0):t.rs.Pairwise (λx y=>x.id<y.id):=(chk5_good h).asc
theorem asc_get{l:List Rtr}(h:l.Pairwise (λx y=>x.id<y.id)){i j:Nat}(hij:i<j){x y:Rtr}(hx:l[i]?=some x)(hy:l[j]?=some y):x.id<y.id:=by
 have hi:=lt_of_get hx
 have hj:=lt_of_get hy
 rw[List.getElem?_eq_getElem hi]at hx
 rw[List.getElem?_eq_getElem hj]at hy
 have:=List.pairwise_iff_getElem.mp h i j hi hj hij
 rw[Option.some.inj hx,Option.some.inj hy]at this
 exact this
theorem evN_set(i m:Nat)(x:AV):(evN i++[x]).set i (.vec m)=(List.range (i+1)).map λj=>.vec ((λj=>if j=2 * i then m else if j=2 * i+1 then m+1 else Fr j) (2 * j)):=by
 rw[List.set_append_right _ _ (by rw[evN_len];exact Nat.le_refl _),evN_len,Nat.sub_self,List.set_cons_zero,List.range_succ,List.map_append]
 congr 1
 ·refine List.map_congr_left λj hj=>?_
  have:=List.mem_range.mp hj
  simp only
  rw[if_neg (by omega),if_neg (by omega)]
 ·simp
theorem odN_set(i m:Nat)(x:AV):(odN i++[x]).set i (.vec (m+1))=(List.range (i+1)).map λj=>.vec ((λj=>if j=2 * i then m else if j=2 * i+1 then m+1 else Fr j) (2 * j+1)):=by
 rw[List.set_append_right _ _ (by rw[odN_len];exact Nat.le_refl _),odN_len,Nat.sub_self,List.set_cons_zero,List.range_succ,List.map_append]
 congr 1
 ·refine List.map_congr_left λj hj=>?_
  have:=List.mem_range.mp hj
  simp only
  rw[if_neg (by omega),if_neg (by omega)]
 ·simp
theorem rd_h1(t:Tpl)(hc:chk5 t=0)(k:Nat):HandOk Tryz.prog 0 k rd_c1 (rd_m t).st (rdS t (List.replicate (2 * t.rs.length) [])):=by
 unfold HandOk rd_c1
 show AWP _ 0 k _ _ ⟨resT [(1,.ref 0 0),(2,.ref 1 0),(3,.ref 2 0)],hpL 0 (rdH t [] [] []),5⟩
 have hR:t.rs.length≤400:=by have:=(chk5_len hc).1;omega
 have hdi:=chk5_asc hc
 have hml:=maxLen_eq
 refine AWP.seq' ?_
 refine AWP.reg' λK hK=>?_
 try simp only[stepS,stepD,stepM,eq_self,implies_true,forall_eq_or_imp,forall_eq,Nat.reduceEqDiff,↓reduceIte,Nat.reduceAdd,Nat.reduceLeDiff,Nat.reduceSub,Nat.reduceMul,Nat.reduceLT,Int.reduceBEq,Int.reduceBNe,Int.reduceToNat,Int.reduceLT,Int.reduceLE,Int.reduceAdd,Int.reduceSub,Int.reduceMul,reduceCtorEq,rdH,Tpl.v,List.length_map]
 refine hK _ _ _ ?_
 clear hK K
 refine AWP.block ?_
 have hge:∀{i:Nat} {r:Rtr},t.rs[i]?=some r→(t.rs.map Rtr.v).getD i .unk=Rtr.v r:=λ{i r} h=>by rw[List.getD_eq_getElem?_getD,List.getElem?_map,h];rfl
 refine AWP.loopS (λi:Nat=>⟨resT [(1,.ref 0 0),(2,.ref 1 0),(3,.ref 2 0),(13,.sl 2 (t.rs.map Rtr.v) false),(14,.int t.rs.length),(15,.int (i:Nat))],GS (List.replicate (2 * i) []) (hpL 0 (rdH t ((t.rs.take i).map (·.id)) (evN i) (odN i))),2000⟩)
  (λi=>i≤t.rs.length) (λi=>t.rs.length-i) (i0:=0) (Nat.zero_le _) ?_ ?_
 ·refine Weak.nfR Stp_pure _ _ _ (λb=>b) Fr ?_ (rdH_F (by omega) rfl rfl rfl rfl rfl rfl rfl) (by simp[rdH]) (by simp) (by simp) (λi j _ _ h=>h) (λi j _ _ h=>by unfold Fr at h;omega) (λi j h1 h2=>by simp at h2) (λb _=>rfl) (by decide)
  simp only[List.forall_mem_cons,List.not_mem_nil,false_implies,implies_true,and_true]
  exact⟨⟨rfl,show 0<2000 by omega⟩,⟨rfl,show 1<2000 by omega⟩,⟨rfl,show 2<2000 by omega⟩,⟨rfl,trivial⟩,⟨rfl,trivial⟩,rfl,trivial⟩
 ·intro i hi
  refine AWP.seq' ?_
  refine AWP.reg' λK hK=>?_
  try simp only[stepS,stepD,stepM,eq_self,implies_true,forall_eq_or_imp,forall_eq,Nat.reduceEqDiff,↓reduceIte,Nat.reduceAdd,Nat.reduceLeDiff,Nat.reduceSub,Nat.reduceMul,Nat.reduceLT,Int.reduceBEq,Int.reduceBNe,Int.reduceToNat,Int.reduceLT,Int.reduceLE,Int.reduceAdd,Int.reduceSub,Int.reduceMul,reduceCtorEq]
  refine hK _ _ _ ?_
  clear hK K
  refine AWP.seq' ?_
  refine AWP.cond (b:=decide ((i:Int)<(t.rs.length:Int))) rfl (λh=>?_) (λh=>?_)
  ·have h:i<t.rs.length:=by have:=of_decide_eq_true h;omega
   have hr:t.rs[i]?=some t.rs[i]:=List.getElem?_eq_getElem h
   generalize t.rs[i]=r at hr
   refine AWP.skip ?_
   refine AWP.seq' (AWP.block (AWP.seq' ?_))
   have hG0:∀b,b<1000→GS (List.replicate (2 * i) []) (hpL 0 (rdH t ((t.rs.take i).map (·.id)) (evN i) (odN i))) b=hpL 0 (rdH t ((t.rs.take i).map (·.id)) (evN i) (odN i)) b:=λb hb=>GR_lo hb
   refine AWP.reg' λK hK=>?_
   try simp only[stepS,stepD,stepM,eq_self,implies_true,forall_eq_or_imp,forall_eq,Nat.reduceEqDiff,↓reduceIte,Nat.reduceAdd,Nat.reduceLeDiff,Nat.reduceSub,Nat.reduceMul,Nat.reduceLT,Int.reduceBEq,Int.reduceBNe,Int.reduceToNat,Int.reduceLT,Int.reduceLE,Int.reduceAdd,Int.reduceSub,Int.reduceMul,reduceCtorEq,hge hr,Int.toNat_natCast,List.length_map,Rtr.v]
   refine⟨⟨by omega,by omega⟩,?_⟩
   refine hK _ _ _ ?_
   clear hK K
   have hnm:¬MK.n r.id∈kyN ((t.rs.take i).map (·.id)):=λhm=>by
    obtain⟨q,hq,e⟩:=List.mem_map.mp hm
    obtain⟨r',hr',rfl⟩:=List.mem_map.mp hq
    obtain⟨j,hj⟩:=List.mem_iff_getElem?.mp hr'
    have hji:j<i:=by have:=lt_of_get hj;rw[List.length_take]at this;omega
    rw[List.getElem?_take_of_lt hji]at hj
    have:=asc_get hdi hji hj hr
    have:=MK.n.inj e;omega
   generalize hids:(t.rs.take i).map (·.id)=ids at hnm hG0 ⊢
   have g2:GS (List.replicate (2 * i) []) (hpL 0 (rdH t ids (evN i) (odN i))) 2=some (.box (.agg [.mref 3,.mref 4])):=hG0 2 (by decide)
   have g3:GS (List.replicate (2 * i) []) (hpL 0 (rdH t ids (evN i) (odN i))) 3=some (.map none (kyN ids) (evN i)):=hG0 3 (by decide)
   have g4:GS (List.replicate (2 * i) []) (hpL 0 (rdH t ids (evN i) (odN i))) 4=some (.map none (kyN ids) (odN i)):=hG0 4 (by decide)
   refine AWP.dreg' λK hK=>?_
   try simp only[stepS,stepD,stepM,eq_self,implies_true,forall_eq_or_imp,forall_eq,Nat.reduceEqDiff,↓reduceIte,Nat.reduceAdd,Nat.reduceLeDiff,Nat.reduceSub,Nat.reduceMul,Nat.reduceLT,Int.reduceBEq,Int.reduceBNe,Int.reduceToNat,Int.reduceLT,Int.reduceLE,Int.reduceAdd,Int.reduceSub,Int.reduceMul,reduceCtorEq,g2,g3,g4,evA_mset,AV.key,MK.fits,msetA,hnm,if_false]
   refine⟨by rfl,hK _ _ _ ?_⟩
   clear hK K
   refine(show AWP _ _ _ _ _ _ from ?_)
   have w:IntKind.i64.wrap ((i:Int)+1)=((i+1:Nat):Int):=wrapN (by omega) (by omega)
   refine AWP.reg' λK hK=>?_
   try simp only[stepS,stepD,stepM,eq_self,implies_true,forall_eq_or_imp,forall_eq,Nat.reduceEqDiff,↓reduceIte,Nat.reduceAdd,Nat.reduceLeDiff,Nat.reduceSub,Nat.reduceMul,Nat.reduceLT,Int.reduceBEq,Int.reduceBNe,Int.reduceToNat,Int.reduceLT,Int.reduceLE,Int.reduceAdd,Int.reduceSub,Int.reduceMul,reduceCtorEq,w]
   refine hK _ _ _ ?_
   clear hK K
   refine⟨i+1,by omega,by omega,?_⟩
   have hids':(t.rs.take (i+1)).map (·.id)=ids++[r.id]:=by rw[take_succ hr,List.map_append,hids];rfl
   rw[hids']
   have hky:kyN (ids++[r.id])=kyN ids++[MK.n r.id]:=by simp[kyN]
   refine Weak.trans (Weak.nilvecM (ks:=kyN ids++[.n r.id]) (vs:=evN i++[.sl 0 [] true]) 3 i 0 2 (by simp only[upd_ap];rfl) (by rw[List.getElem?_append_right (by rw[evN_len];exact Nat.le_refl _),evN_len,Nat.sub_self];rfl) (Nat.zero_le _)) ?_
   refine Weak.trans (Weak.nilvecM (ks:=kyN ids++[.n r.id]) (vs:=odN i++[.sl 0 [] true]) 4 i 0 2 (by simp only[upd_ap];rfl) (by rw[List.getElem?_append_right (by rw[odN_len];exact Nat.le_refl _),odN_len,Nat.sub_self];rfl) (Nat.zero_le _)) ?_
   refine Weak.nfR Stp_pure _ _ _ (λb=>b) (λj=>if j=2 * i then 2272 else if j=2 * i+1 then 2272+1 else Fr j) ?_
    (rdH_F (by omega) ?_ ?_ ?_ (by rw[hky];simp only[upd_ap];rfl) (by rw[hky];simp only[upd_ap];rfl) (evN_set i 2272 _) (odN_set i 2272 _)) (by simp[rdH]) (by simp;omega) ?_ (λi j _ _ h=>h) ?_ ?_ (λb _=>rfl) (by decide)
   ·simp only[List.forall_mem_cons,List.not_mem_nil,false_implies,implies_true,and_true]
    exact⟨⟨rfl,show 0<2000 by omega⟩,⟨rfl,show 1<2000 by omega⟩,⟨rfl,show 2<2000 by omega⟩,⟨rfl,trivial⟩,⟨rfl,trivial⟩,rfl,trivial⟩
   ·simp only[upd_ap];exact hG0 0 (by decide)
   ·simp only[upd_ap];exact hG0 1 (by decide)
   ·simp only[upd_ap];exact hG0 2 (by decide)
   ·intro j q hj
    rw[List.getElem?_replicate]at hj
    split at hj
    case isFalse=>cases hj
    cases hj
    rename_i hj2
    split
    ·rfl
    ·split
     ·rfl
     ·have:(List.replicate (2 * i) ([]:List Stp))[j]?=some []:=by rw[List.getElem?_replicate,if_pos (by omega)]
      simp only[upd_ap,Fr_lo (show 3<1000 by omega),Fr_lo (show 4<1000 by omega),Fr_hi (show j<1000 by omega) (show 2000≤2272 by omega),Fr_hi (show j<1000 by omega) (show 2000≤2272+1 by omega),Fr_hi (show j<1000 by omega) (show 2000≤2048 by omega),if_false]
      exact GR_F this (by simp;omega)
   ·intro a b ha hb he
    simp at ha hb
    unfold Fr at he
    (repeat' split at he)<;>omega
   ·intro a b ha hb he
    simp only[rdH,List.length_cons,List.length_nil]at ha
    unfold Fr at he
    (repeat' split at he)<;>omega
  ·have h:i=t.rs.length:=by have:=of_decide_eq_false h;omega
   subst h
   refine AWP.exit ?_
   refine(show Weak 0 k _ _ from ?_)
   unfold rdS
   rw[List.take_length]
   refine Weak.nfR Stp_pure _ _ _ (λb=>b) Fr ?_ (rdH_F (by omega) rfl rfl rfl rfl rfl rfl rfl) (by simp[rdH]) (by simp;omega) (λj r hr=>GR_F hr (by simp;omega)) (λi j _ _ h=>h) (λi j _ _ h=>by unfold Fr at h;omega) (λi j h1 h2 h=>by simp[rdH]at h1;unfold Fr at h;omega) (λb _=>rfl) (by decide)
   simp only[List.forall_mem_cons,List.not_mem_nil,false_implies,implies_true,and_true]
   exact⟨⟨rfl,show 0<2000 by omega⟩,⟨rfl,show 1<2000 by omega⟩,rfl,show 2<2000 by omega⟩
end Go.Proofs.YtdoacjojljgdcaaGreat
