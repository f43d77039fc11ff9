/- Texts joined: AmB. -/
import Derived.Orders
import Derived.Below
import Derived.Lib.Overlaps
import Derived.Test.YtiobpjoadkfhdaaGreatMM1
set_option linter.unusedVariables false
set_option linter.unusedSimpArgs false
set_option linter.unusedSectionVars false
namespace Go.Am
def AOp.opers:AOp→List AO
 | .move x|.box x|.load _ _ x|.nilc x|.un _ x|.convI _ x|.convBS x|.convS x|.convSB x|.faddr _ x|.field _ _ _ x|.ext _ x|.len x|.lenS x|.cap x|.clear _ _ x|.isNil _ _ x|.mkI _ x|.asrt _ _ x|.mlen x|.rng x|.nxt x|.ent x=>[x]
 | .pick c a b=>[c,a,b]
 | .build _ ps=>ps.map (·.2.2)
 | .lit _ _ _ ps=>ps.map (·.2)
 | .store _ a x|.bin _ a x|.binB _ a x|.eqs _ _ a x|.mks _ _ _ a x|.iaddr _ a x|.iaddrA _ _ a x|.indexA _ _ _ a x|.indexS a x|.append _ _ a x|.appendS _ a x|.copy _ a x|.appendZ _ _ _ a x|.mget _ _ _ a x|.mdel _ a x=>[a,x]
 | .mset _ a b x=>[a,b,x]
 | .mkm _=>[]
 | .mkf _ cs=>cs
 | .sliceS x lo hi|.sliceA _ _ x lo hi=>x::lo.toList++hi.toList
 | .slice _ x lo hi mx=>x::lo.toList++hi.toList++mx.toList
 | .min xs|.max xs=>xs
 | .call g xs=>g::xs
 | .bad=>[]
def aL:AV→List Nat
 | .ref b _|.eref b _ _|.vec b|.vsub b _ _|.asub b _ _ _|.mref b=>[b]
 | _=>[]
theorem vD{hp hp':Hp}{x:AV}(h:∀b∈aL x,hp b=hp' b):iZ hp x=iZ hp' x:=by
 cases x<;>simp_all [iZ,aL]
theorem nt{hp hp':Hp}{x:AV}(h:∀b∈aL x,hp b=hp' b):dI hp x=dI hp' x:=by
 cases x<;>simp_all [dI,aL]
theorem mM{hp hp':Hp}{k:Nat}{x:AV}(h:∀b∈aL x,hp b=hp' b):dj hp k x=dj hp' k x:=by
 cases x<;>simp_all [dj,aL]
theorem gZ{hp hp':Hp}{k:Nat}{x:AV}{lo hi mx:Option Int}(h:∀b∈aL x,hp b=hp' b):sliceA hp k x lo hi mx=sliceA hp' k x lo hi mx:=by
 cases x<;>simp_all [sliceA,aL]
theorem mR{hp hp':Hp}{f k:Nat}{x:AV}{i:Int}(h:∀b∈aL x,hp b=hp' b):cz hp f k x i=cz hp' f k x i:=by
 unfold cz;rw[gZ h];cases x<;>simp_all [aL]
theorem wF{hp hp':Hp}{f k:Nat}{x:AV}{i m:Int}(h:∀b∈aL x,hp b=hp' b):jV hp f k x i m=jV hp' f k x i m:=by
 unfold jV;rw[gZ h];cases x<;>simp_all [aL]
theorem uj{hp hp':Hp}{k:Nat}{x:AV}(h:∀b∈aL x,hp b=hp' b):lk hp k x=lk hp' k x:=by
 have e:=mM (k:=k) h;cases x with
 | vsub b lo n =>
  have hb:=h b (by simp[aL]);simp only[lk,hb,e]
 | _=>simp only[lk,e]
theorem tp{hp hp':Hp}{k:Nat}{d:AV}{src:Option (Nat×List AV)}(h:∀b∈aL d,hp b=hp' b):ji hp k d src=ji hp' k d src:=by
 unfold ji;cases src with
 | none=>cases d<;>rfl
 | some xs=>cases d<;>simp_all [aL]
theorem qB{hp hp':Hp}{k:Nat}{z d:AV}(h:∀b∈aL d,hp b=hp' b):jk hp k z d=jk hp' k z d:=by
 unfold jk;cases d<;>simp_all [aL]
theorem om{hp hp':Hp}{f k b:Nat}{z s n:AV}(h:∀b∈aL s,hp b=hp' b):fh hp f k b z s n=fh hp' f k b z s n:=by
 cases s with
 | vsub b lo i =>
  have hb:=h b (by simp[aL]);unfold fh
  split
  ·rename_i e;cases e;simp only[hb]
  ·rfl
 | _=>rfl
theorem jK{hp hp':Hp}{f k b:Nat}{s:AV}{src:Option (List AV)}(h:∀b∈aL s,hp b=hp' b):aS hp f k b s src=aS hp' f k b s src:=by
 unfold aS;cases src with
 | none=>rfl
 | some xs=>cases s<;>simp_all [aL]
theorem AT{op:AOp}{f:Nat}{ρ ρ':AO→AV}{hp hp':Hp}(h:∀x∈op.opers,ρ x=ρ' x)(hh:∀x∈op.opers,∀b∈aL (ρ x),hp b=hp' b):evA op f ρ hp=evA op f ρ' hp':=by
 cases op with
 | build z ps =>
  have:ps.map (λp=>(p.1,p.2.1,ρ p.2.2))=ps.map (λp=>(p.1,p.2.1,ρ' p.2.2)):=an' λp hp=>by rw[h p.2.2 (aa'.2 ⟨p,hp,rfl⟩)]
  simp only[evA,this]
 | lit k n z ps =>
  have:ps.map (λp=>(p.1,ρ p.2))=ps.map (λp=>(p.1,ρ' p.2)):=an' λp hp=>by rw[h p.2 (aa'.2 ⟨p,hp,rfl⟩)]
  simp only[evA,this]
 | mkf g cs =>
  have:cs.map ρ=cs.map ρ':=an' h;simp only[evA,this]
 | min xs =>
  have:xs.map ρ=xs.map ρ':=an' h;simp only[evA,this]
 | max xs =>
  have:xs.map ρ=xs.map ρ':=an' h;simp only[evA,this]
 | sliceS x lo hi =>
  simp only[AOp.opers,ah',ab',Option.mem_toList]at h;have h1:=h x (by simp);have h2:lo.map ρ=lo.map ρ':=by cases lo with|none=>rfl|some y=>rw[ai',ai',h y (by simp)]
  have h3:hi.map ρ=hi.map ρ':=by cases hi with|none=>rfl|some y=>rw[ai',ai',h y (by simp)]
  simp only[evA,h1,h2,h3]
 | sliceA n k x lo hi =>
  simp only[AOp.opers,ah',ab',Option.mem_toList]at h;have h1:=h x (by simp);have h2:lo.map ρ=lo.map ρ':=by cases lo with|none=>rfl|some y=>rw[ai',ai',h y (by simp)]
  have h3:hi.map ρ=hi.map ρ':=by cases hi with|none=>rfl|some y=>rw[ai',ai',h y (by simp)]
  simp only[evA,h1,h2,h3]
 | slice k x lo hi mx =>
  have hx:=hh x (by simp[AOp.opers]);simp only[AOp.opers,ah',ab',Option.mem_toList]at h;have h1:=h x (by simp);have h2:lo.map ρ=lo.map ρ':=by cases lo with|none=>rfl|some y=>rw[ai',ai',h y (by simp)]
  have h3:hi.map ρ=hi.map ρ':=by cases hi with|none=>rfl|some y=>rw[ai',ai',h y (by simp)]
  have h4:mx.map ρ=mx.map ρ':=by cases mx with|none=>rfl|some y=>rw[ai',ai',h y (by simp)]
  rw[h1]at hx;simp only[evA,h1,h2,h3,h4,gZ hx,mR hx,wF hx]
 | cap x =>
  have hx:=hh x (by simp[AOp.opers]);have h1:=h x (by simp[AOp.opers]);rw[h1]at hx;simp only[evA,h1];generalize ρ' x=X at hx;cases X with
  | vec b=>simp only[hx b (by simp[aL])]
  | sl k es full=>cases full<;>rfl
  | _=>rfl
 | copy k s x =>
  have hs:=hh s (by simp[AOp.opers]);have hx:=hh x (by simp[AOp.opers]);have h1:=h s (by simp[AOp.opers]);have h2:=h x (by simp[AOp.opers]);rw[h1]at hs;rw[h2]at hx;simp only[evA,h1,h2,tp hs,uj hx]
 | clear k z x =>
  have hx:=hh x (by simp[AOp.opers]);have h1:=h x (by simp[AOp.opers]);rw[h1]at hx;simp only[evA,h1,qB hx]
 | appendZ k b z s x =>
  have hs:=hh s (by simp[AOp.opers]);have h1:=h s (by simp[AOp.opers]);have h2:=h x (by simp[AOp.opers]);rw[h1]at hs;simp only[evA,h1,h2,om hs]
 | len x =>
  have hx:=hh x (by simp[AOp.opers]);have h1:=h x (by simp[AOp.opers]);rw[h1]at hx;simp only[evA,h1,vD hx]
 | mlen x =>
  have hx:=hh x (by simp[AOp.opers]);have h1:=h x (by simp[AOp.opers]);rw[h1]at hx;simp only[evA,h1,nt hx]
 | mget kk z ok x y =>
  have hx:=hh x (by simp[AOp.opers]);have h1:=h x (by simp[AOp.opers]);have h2:=h y (by simp[AOp.opers]);rw[h1]at hx;simp only[evA,h1,h2,nt hx]
 | mset kk x y v =>
  have hx:=hh x (by simp[AOp.opers]);have h1:=h x (by simp[AOp.opers]);have h2:=h y (by simp[AOp.opers]);have h3:=h v (by simp[AOp.opers]);rw[h1]at hx;simp only[evA,h1,h2,h3];generalize ρ' x=X at *
  cases X with
  | mref b=>simp only[hx b (by simp[aL])]
  | _=>rfl
 | mdel kk x y =>
  have hx:=hh x (by simp[AOp.opers]);have h1:=h x (by simp[AOp.opers]);have h2:=h y (by simp[AOp.opers]);rw[h1]at hx;simp only[evA,h1,h2];generalize ρ' x=X at *
  cases X with
  | mref b=>simp only[hx b (by simp[aL])]
  | _=>rfl
 | append k b s x =>
  have hs:=hh s (by simp[AOp.opers]);have hx:=hh x (by simp[AOp.opers]);have h1:=h s (by simp[AOp.opers]);have h2:=h x (by simp[AOp.opers]);rw[h1]at hs;rw[h2]at hx;simp only[evA,h1,h2,jK hs,mM hx]
 | appendS b s x =>
  have hs:=hh s (by simp[AOp.opers]);have h1:=h s (by simp[AOp.opers]);have h2:=h x (by simp[AOp.opers]);rw[h1]at hs;simp only[evA,h1,h2,jK hs]
 | load agg size x =>
  have hx:=hh x (by simp[AOp.opers]);have h1:=h x (by simp[AOp.opers]);rw[h1]at hx;simp only[evA,h1];generalize ρ' x=X at *
  cases X<;>simp_all [aL]
 | store size x y =>
  have hx:=hh x (by simp[AOp.opers]);have h1:=h x (by simp[AOp.opers]);have h2:=h y (by simp[AOp.opers]);rw[h1]at hx;simp only[evA,h1,h2];generalize ρ' x=X at *
  cases X<;>simp_all [aL]
 | convBS x =>
  have hx:=hh x (by simp[AOp.opers]);have h1:=h x (by simp[AOp.opers]);rw[h1]at hx;simp only[evA,h1];generalize ρ' x=X at *
  cases X with
  | vec b=>simp only[hx b (by simp[aL])]
  | asub b o n k =>
   have e:gU hp b=gU hp' b:=by simp only[gU,hx b (by simp[aL])]
   match k with
   | 0=>rfl
   | 1=>simp only[e]
   | k+2=>rfl
  | sl k es full =>
   match k with
   | 0=>rfl
   | 1=>rfl
   | k+2=>rfl
  | _=>rfl
 | iaddr k x i =>
  have hx:=hh x (by simp[AOp.opers]);have h1:=h x (by simp[AOp.opers]);have h2:=h i (by simp[AOp.opers]);rw[h1]at hx;simp only[evA,h1,h2];generalize ρ' x=X at *
  cases X<;>simp_all [aL]
 | _=>simp only[AOp.opers,ah',aB',or_false,forall_eq_or_imp,forall_eq]at h<;>simp only[evA,h]
abbrev Eff:=Nat→Option (Option Blk)
def bR(e:Eff)(hp:Hp):Hp:=λb=>match e b with|some x=>x|none=>hp b
def cB:Eff:=λ_=>none
theorem kQ(hp:Hp):bR cB hp=hp:=rfl
def fm(o:Out):Eff:=λb=>match o.ad with
 | some (f,x)=>if b=f then some (some x)else if o.rm=some b then some none else none
 | none=>if o.rm=some b then some none else none
theorem cV(o:Out)(hp:Hp):bR (fm o) hp=bH o hp:=by
 funext b
 unfold bR fm bH;cases o.ad with
 | none =>
  cases o.rm with
  | none=>simp
  | some r =>
   by_cases h:b=r
   ·subst h;simp[upd]
   ·have h':¬r=b:=λe=>h e.symm;simp[upd,h,h']
 | some p =>
  obtain⟨f,x⟩:=p
  by_cases hf:b=f
  ·simp[upd,hf]
  ·cases o.rm with
   | none=>simp[upd,hf]
   | some r =>
    by_cases h:b=r
    ·subst h;simp[upd,hf]
    ·have h':¬r=b:=λe=>h e.symm;simp[upd,hf,h,h']
def gq(P:Program)(n:Nat)(o:Oper)(f:Nat)(tm:Nat→AV)(hp:Hp)(rd:List Nat)(v:AV)(e:Eff):Prop:=
 ∀(c:Ctx) (A:Nat→Prop) (μ:Mu) (fr:Nat→Prop) (tm':Nat→AV) (hp':Hp) (a:Act) (w:World) (K:Act→World→Prop) (Q:Exit→Act→World→Prop),
  ay P c A μ fr tm' hp' n a w→(∀t,AO.t t∈(cOp P o.op o.type).opers→tm' t=tm t)→(∀b∈rd,hp' b=hp b)→(∀j,j<16→fr (f+j)) →
  (∀a' w' A' μ',ay P c A' μ' (λb=>fr b∧¬(f≤b∧b<f+16)) (aH o.dst v tm') (bR e hp') n a' w'→K a' w')→o.wp P a w K Q
def Oz(op:AOp)(tm:Nat→AV):List Nat:=op.opers.flatMap λx=>aL (evO tm x)
theorem xu{P:Program}{n:Nat}{o:Oper}{f:Nat}{tm:Nat→AV}{hp:Hp}(hd:∀d,o.dst=some d→d<n)(hc:(evA (cOp P o.op o.type) f (evO tm) hp).c) :
  gq P n o f tm hp (Oz (cOp P o.op o.type) tm) (evA (cOp P o.op o.type) f (evO tm) hp).v (fm (evA (cOp P o.op o.type) f (evO tm) hp)):=by
 intro c A μ fr tm' hp' a w K Q H h1 h2 h3 hK;have hev:∀x∈(cOp P o.op o.type).opers,evO tm' x=evO tm x:=by
  intro x hx;cases x with
  | t t=>exact h1 t hx
  | c x=>rfl
 have heq:evA (cOp P o.op o.type) f (evO tm') hp'=evA (cOp P o.op o.type) f (evO tm) hp:=by
  refine AT hev λx hx b hb=>h2 b ?_;rw[hev x hx]at hb;exact bn'.2 ⟨x,hx,hb⟩
 rw[←heq]at hc hK;obtain⟨cv,w',A',μ',e1,e2,e3⟩:=AS o H (by simpa using h3 0 (by omega)) hc;have hrel:ay P c A' μ' (λb=>fr b∧¬(f≤b∧b<f+16)) (aH o.dst (evA (cOp P o.op o.type) f (evO tm') hp').v tm') (bR (fm (evA (cOp P o.op o.type) f (evO tm') hp')) hp') n (a.put o.dst cv) w':=by
  rw[cV];have:=(e2.free (fr':=λb=>fr b∧¬(f≤b∧b<f+16)) λb hb=>⟨hb.1,λe=>hb.2 (by omega)⟩).put o.dst hd e3;exact this
 unfold Oper.wp
 rcases e1 with e1|⟨e1,rfl⟩
 ·rw[e1,Oper.upon_value];exact hK _ _ _ _ hrel
 ·rw[e1,Oper.upon_skip];exact hK _ _ _ _ hrel
theorem lR{ptr:Bool}{y:Operand}(h:nz ptr y=true):∃v,y=.const v∧((ptr=false∧∃n c,v=.slice none n c)∨(ptr=true∧v=.pointer none)):=by
 unfold nz at h
 split at h
 ·exact⟨_,rfl,.inl ⟨by simpa using h,_,_,rfl⟩⟩
 ·exact⟨_,rfl,.inr ⟨h,rfl⟩⟩
 ·cases h
theorem pe{P:Program}{ptr ptr' ne:Bool}{op:BinOp}{x y:Operand}{x':AO}(h:il P ptr op x y=.isNil ptr' ne x'):ptr'=ptr∧x'=cO P x∧op=(if ne then .neq else .eql)∧nz ptr y=true:=by
 unfold il at h
 split at h
 ·rename_i hy;split at h<;>cases h<;>exact⟨rfl,rfl,rfl,hy⟩
 ·cases h
theorem Bo{P:Program}{op:Op}{ty:TypeId}{ptr ne:Bool}{x:AO}(ho:cOp P op ty=.isNil ptr ne x) :
  ∃b t x' v yt e,op=.binOp b t x' (.const v) yt∧x=cO P x'∧b=(if ne then .neq else .eql)∧((ptr=false∧P.underlying t=some (.slice e)∧∃n c,v=.slice none n c)∨(ptr=true∧P.underlying t=some (.pointer e)∧v=.pointer none)):=by
 cases op with
 | call c =>
  obtain⟨callee,args,ts⟩:=c;cases callee with
  | value g'=>simp only[cOp,dh]at ho;cases ho
  | invoke r m=>simp[cOp,dh]at ho
  | builtin b =>
   simp only[cOp,dh]at ho
   (repeat' split at ho)<;>cases ho
 | makeFunc fn first captured =>
  cases fn<;>simp only[cOp]at ho<;>(repeat' split at ho)<;>cases ho
 | makeMap t r=>cases r<;>simp only[cOp]at ho<;>(repeat' split at ho)<;>cases ho
 | typeAssert x' st t ok=>cases ok<;>simp only[cOp]at ho<;>(repeat' split at ho)<;>cases ho
 | next x' b=>cases b<;>simp only[cOp]at ho<;>cases ho
 | binOp op t x' y yt =>
  simp only[cOp]at ho
  split at ho
  ·(repeat' split at ho)<;>cases ho
  ·cases ho
  ·cases ho
  ·cases ho
  ·rename_i e hu;obtain⟨rfl,h2,h3,h4⟩:=pe ho;obtain⟨v,rfl,h5⟩:=lR h4;refine⟨op,t,x',v,yt,e,rfl,h2,h3,.inl ?_⟩
   rcases h5 with⟨_,h5⟩|⟨h5,_⟩
   ·exact⟨rfl,hu,h5⟩
   ·cases h5
  ·rename_i e hu;obtain⟨rfl,h2,h3,h4⟩:=pe ho;obtain⟨v,rfl,h5⟩:=lR h4;refine⟨op,t,x',v,yt,e,rfl,h2,h3,.inr ?_⟩
   rcases h5 with⟨h5,_⟩|⟨_,h5⟩
   ·cases h5
   ·exact⟨rfl,hu,h5⟩
  ·cases ho
 | _=>simp only[cOp,jJ]at ho<;>(repeat' split at ho)<;>cases ho
theorem IL{P:Program}{n:Nat}{o:Oper}{tm:Nat→AV}{hp:Hp}{ptr ne:Bool}{x:AO}(ho:cOp P o.op o.type=.isNil ptr ne x)(hd:∀d,o.dst=some d→d<n)(hok:kF ptr (evO tm x))
  {c:Ctx} {A:Nat→Prop} {μ:Mu} {fr:Nat→Prop} {a:Act} {w:World} {K:Act→World→Prop} {Q:Exit→Act→World→Prop} (H:ay P c A μ fr tm hp n a w)
  (hK:∀t,pL hp (evO tm x) t→∀a',ay P c A μ fr (aH o.dst (.bool (t != ne)) tm) hp n a' w→K a' w):o.wp P a w K Q:=by
 obtain⟨b,t,x',v,yt,e,h1,rfl,h3,h4⟩:=Bo ho;obtain⟨tt,g1,g2⟩:=xO (P:=P) (T:=t) (e:=e) (op:=b) (y:=v) h3 h4 H (H.ev x') hok;have hg:(eqGuard b t x' (.const v) (a.eval x') (a.eval (.const v))).run P w=.ok () w:=by
  have hv:a.eval (.const v)=v:=rfl;rw[hv];subst h3;rcases h4 with⟨_,_,n',c',rfl⟩|⟨_,_,rfl⟩<;>(unfold eqGuard;cases ne<;>cases a.eval x'<;>rfl)
 have he:(execOp a.eval o).run P w=.ok (.value (.bool (tt != ne))) w:=by
  unfold execOp;rw[h1];simp only[Sem.run_bind,hg,Result.andThen_ok];rw[show a.eval (.const v)=v from rfl,g2];rfl
 unfold Oper.wp;rw[he,Oper.upon_value];exact hK tt g1 _ (H.put o.dst hd (cn _))
theorem GZ{P:Program}{ptr:Bool}{op:BinOp}{x y:Operand}{k n:Nat}{z:AV}{ps:List (Nat×AO)}(h:il P ptr op x y=.lit k n z ps):False:=by
 unfold il at h
 split at h
 ·split at h<;>cases h
 ·cases h
theorem Mj{P:Program}{op:Op}{ty:TypeId}{k N:Nat}{z:AV}{ps:List (Nat×AO)}(ho:cOp P op ty=.lit k N z ps) :
  ∃t parts e,op=.buildSlice t N parts∧P.underlying t=some (.slice e)∧sizeOf? P e=some k∧cf P e=some z∧(0<k∧z.solid=true∧z.cells.length=k∧N * k≤2 ^ 24)∧ps=parts.toList.map λ(i,x)=>(i,cO P x):=by
 cases op with
 | call c =>
  obtain⟨callee,args,ts⟩:=c;cases callee with
  | value g'=>simp only[cOp,dh]at ho;cases ho
  | invoke r m=>simp[cOp,dh]at ho
  | builtin b =>
   simp only[cOp,dh]at ho
   (repeat' split at ho)<;>cases ho
 | makeFunc fn first captured =>
  cases fn<;>simp only[cOp]at ho<;>(repeat' split at ho)<;>cases ho
 | makeMap t r=>cases r<;>simp only[cOp]at ho<;>(repeat' split at ho)<;>cases ho
 | typeAssert x' st t ok=>cases ok<;>simp only[cOp]at ho<;>(repeat' split at ho)<;>cases ho
 | next x' b=>cases b<;>simp only[cOp]at ho<;>cases ho
 | binOp op t x' y yt =>
  simp only[cOp]at ho
  (repeat' split at ho)<;>first|exact(GZ ho).elim|cases ho
 | buildSlice t N' parts =>
  simp only[cOp]at ho;split at ho
  case h_2=>cases ho
  rename_i e hu;split at ho
  case h_2=>cases ho
  rename_i k' z' hs hz;split at ho
  case isFalse=>cases ho
  rename_i hk;cases ho;exact⟨t,parts,e,rfl,hu,hs,hz,hk,rfl⟩
 | _=>simp only[cOp,jJ]at ho<;>(repeat' split at ho)<;>cases ho
theorem Nk{P:Program}{n:Nat}{o:Oper}{f:Nat}{tm:Nat→AV}{hp:Hp}{k N:Nat}{z:AV}{ps:List (Nat×AO)}(ho:cOp P o.op o.type=.lit k N z ps)(hd:∀d,o.dst=some d→d<n)(hc:(evL k N z ps f (evO tm)).c) :
  gq P n o f tm hp [] (evL k N z ps f (evO tm)).v (fm (evL k N z ps f (evO tm))):=by
 intro c A μ fr tm' hp' a w K Q H h1 h2 h3 hK;rw[ho]at h1;have hev:∀x∈(AOp.lit k N z ps).opers,evO tm' x=evO tm x:=by
  intro x hx;cases x with
  | t t=>exact h1 t hx
  | c x=>rfl
 have heq:evL k N z ps f (evO tm')=evL k N z ps f (evO tm):=by
  have:ps.map (λp=>(p.1,evO tm' p.2))=ps.map (λp=>(p.1,evO tm p.2)):=an' λp hp=>by rw[hev p.2 (aa'.2 ⟨p,hp,rfl⟩)]
  simp only[evL,this]
 rw[←heq]at hc hK;obtain⟨t,parts,e,g1,g2,g3,g4,g5,rfl⟩:=Mj ho;have hdo:=bQ.next (Bb (P:=P) (a:=a) g2 g3 g4 g5 H (by simpa using h3 0 (by omega)) hc);obtain⟨cv,w',A',μ',e1,e2,e3⟩:=hdo;have hrel:ay P c A' μ' (λb=>fr b∧¬(f≤b∧b<f+16)) (aH o.dst (evL k N z (parts.toList.map λ(i,x)=>(i,cO P x)) f (evO tm')).v tm') (bR (fm (evL k N z (parts.toList.map λ(i,x)=>(i,cO P x)) f (evO tm'))) hp') n (a.put o.dst cv) w':=by
  rw[cV];exact(e2.free (fr':=λb=>fr b∧¬(f≤b∧b<f+16)) λb hb=>⟨hb.1,λe=>hb.2 (by omega)⟩).put o.dst hd e3
 have hex:execOp a.eval o=(do pure (.value (←Instr.buildSlice t N (parts.map λ(i,x)=>(i,a.eval x))))):=by
  unfold execOp;rw[g1]
 rw[←hex]at e1;unfold Oper.wp
 rcases e1 with e1|⟨e1,rfl⟩
 ·rw[e1,Oper.upon_value];exact hK _ _ _ _ hrel
 ·rw[e1,Oper.upon_skip];exact hK _ _ _ _ hrel
def kAV:MK→AV
 | .n i=>.val (.int .i64 i)
 | .c l=>.agg (l.map λi=>.val (.int .i64 i))
def kOk:MK→Prop
 | .n i=>inK .i64 i
 | .c _=>False
theorem E0{w:World}{A:Nat→Prop}{μ:Mu}{q:MK}(h:kOk q):RV w A (kAV q) μ q.v:=by
 cases q with
 | n i=>exact⟨rfl,h⟩
 | c l=>exact h.elim
theorem oh{P:Program}{ptr:Bool}{op:BinOp}{x y z:Operand}{X:AO}(h:il P ptr op x y=.rng X∨il P ptr op x y=.nxt X∨il P ptr op x y=.ent X):False:=by
 unfold il at h
 split at h
 ·split at h<;>(rcases h with h|h|h<;>cases h)
 ·rcases h with h|h|h<;>cases h
theorem Mh{P:Program}{op:Op}{ty:TypeId}{x:AO}(ho:cOp P op ty=.rng x):∃t x' kt e,op=.range t x'∧P.underlying t=some (.map kt e)∧x=cO P x':=by
 cases op with
 | call c =>
  obtain⟨callee,args,ts⟩:=c;cases callee with
  | value g'=>simp only[cOp,dh]at ho;cases ho
  | invoke r m=>simp[cOp,dh]at ho
  | builtin b=>simp only[cOp,dh]at ho;(repeat' split at ho)<;>cases ho
 | makeFunc fn first captured=>cases fn<;>simp only[cOp]at ho<;>(repeat' split at ho)<;>cases ho
 | makeMap t r=>cases r<;>simp only[cOp]at ho<;>(repeat' split at ho)<;>cases ho
 | typeAssert x' st t ok=>cases ok<;>simp only[cOp]at ho<;>(repeat' split at ho)<;>cases ho
 | next x' b=>cases b<;>simp only[cOp]at ho<;>cases ho
 | binOp op t x' y yt =>
  simp only[cOp]at ho
  (repeat' split at ho)<;>first|exact(oh (z:=x') (.inl ho)).elim|cases ho
 | range t x' =>
  simp only[cOp]at ho;split at ho
  case h_2=>cases ho
  rename_i kt e hu;split at ho
  case h_2=>cases ho
  cases ho;exact⟨t,x',kt,e,rfl,hu,rfl⟩
 | _=>simp only[cOp,jJ]at ho<;>(repeat' split at ho)<;>cases ho
theorem Mi{P:Program}{op:Op}{ty:TypeId}{x:AO}(ho:cOp P op ty=.nxt x):∃x',op=.next x' false∧x=cO P x':=by
 cases op with
 | call c =>
  obtain⟨callee,args,ts⟩:=c;cases callee with
  | value g'=>simp only[cOp,dh]at ho;cases ho
  | invoke r m=>simp[cOp,dh]at ho
  | builtin b=>simp only[cOp,dh]at ho;(repeat' split at ho)<;>cases ho
 | makeFunc fn first captured=>cases fn<;>simp only[cOp]at ho<;>(repeat' split at ho)<;>cases ho
 | makeMap t r=>cases r<;>simp only[cOp]at ho<;>(repeat' split at ho)<;>cases ho
 | typeAssert x' st t ok=>cases ok<;>simp only[cOp]at ho<;>(repeat' split at ho)<;>cases ho
 | next x' b =>
  cases b<;>simp only[cOp]at ho<;>cases ho;exact⟨x',rfl,rfl⟩
 | binOp op t x' y yt =>
  simp only[cOp]at ho
  (repeat' split at ho)<;>first|exact(oh (z:=x') (.inr (.inl ho))).elim|cases ho
 | _=>simp only[cOp,jJ]at ho<;>(repeat' split at ho)<;>cases ho
theorem Mk{P:Program}{op:Op}{ty:TypeId}{x:AO}(ho:cOp P op ty=.ent x):∃x',op=.entry x'∧x=cO P x':=by
 cases op with
 | call c =>
  obtain⟨callee,args,ts⟩:=c;cases callee with
  | value g'=>simp only[cOp,dh]at ho;cases ho
  | invoke r m=>simp[cOp,dh]at ho
  | builtin b=>simp only[cOp,dh]at ho;(repeat' split at ho)<;>cases ho
 | makeFunc fn first captured=>cases fn<;>simp only[cOp]at ho<;>(repeat' split at ho)<;>cases ho
 | makeMap t r=>cases r<;>simp only[cOp]at ho<;>(repeat' split at ho)<;>cases ho
 | typeAssert x' st t ok=>cases ok<;>simp only[cOp]at ho<;>(repeat' split at ho)<;>cases ho
 | next x' b=>cases b<;>simp only[cOp]at ho<;>cases ho
 | entry x'=>cases ho;exact⟨x',rfl,rfl⟩
 | binOp op t x' y yt =>
  simp only[cOp]at ho
  (repeat' split at ho)<;>first|exact(oh (z:=x') (.inr (.inr ho))).elim|cases ho
 | _=>simp only[cOp,jJ]at ho<;>(repeat' split at ho)<;>cases ho
theorem ay.mstBlk{P:Program}{c:Ctx}{A:Nat→Prop}{μ:Mu}{fr:Nat→Prop}{tm:Nat→AV}{hp:Hp}{n:Nat}{a:Act}{w:World}(H:ay P c A μ fr tm hp n a w){b ck:Nat}{kk:Option Nat}{ks:List MK}{vs:List AV}{st:List Nat}(hb:hp b=some (.mst kk ks vs st ck)) :
  ∃hd ents,μ b=some hd∧hd.emp=none∧w.heap[hd.blk]?=some (.map ents ck)∧cm kk ks ents ck∧RVL w A vs μ (ents.toList.map (·.val))∧(∀x∈vs,x.solid=true)∧ents.toList.map (·.born)=st:=by
 obtain⟨hd,h1,⟨h2,ents,h3,h4,h5,h6,h7⟩,_⟩:=H.blk b _ hb;exact⟨hd,ents,h1,h2,h3,h4,h5,h6,h7⟩
theorem ay.itrBlk{P:Program}{c:Ctx}{A:Nat→Prop}{μ:Mu}{fr:Nat→Prop}{tm:Nat→AV}{hp:Hp}{n:Nat}{a:Act}{w:World}(H:ay P c A μ fr tm hp n a w){b m ck:Nat}{st seen:List Nat}(hb:hp b=some (.itr m st ck seen)) :
  ∃hd hm,μ b=some hd∧hd.emp=none∧μ m=some hm∧hm.emp=none∧w.heap[hd.blk]?=some (.mapIter (some hm.blk) ck seen.toArray ck):=by
 obtain⟨hd,h1,⟨h2,hm,h3,h4,h5⟩,_⟩:=H.blk b _ hb;exact⟨hd,hm,h1,h2,h3,h4,h5⟩
theorem IJ{P:Program}{n:Nat}{o:Oper}{f:Nat}{tm:Nat→AV}{hp:Hp}{x:AO}{b ck:Nat}{kk:Option Nat}{ks:List MK}{vs:List AV}{st:List Nat}(ho:cOp P o.op o.type=.rng x)(hd:∀d,o.dst=some d→d<n)
    (hx:evO tm x=.mref b) (hb:hp b=some (.mst kk ks vs st ck)):gq P n o f tm hp [b] (.ref f 0) (fm { c:=True,v:=.ref f 0,ad:=some (f,.itr b st ck []) }):=by
  intro c A μ fr tm' hp' a w K Q H h1 h2 h3 hK;obtain⟨t,x',kt,e,g1,g2,rfl⟩:=Mh ho;have hev:evO tm' (cO P x')=evO tm (cO P x'):=by
    cases h:cO P x' with
    | t t=>exact h1 t (by rw[ho,h];simp[AOp.opers])
    | c x=>rfl
  have hr:=H.ev x';rw[hev,hx]at hr;obtain⟨hd1,r1,r2,r3⟩:=hr;obtain⟨hd',ents,q1,q2,q3,q4,q5,q6,q7⟩:=H.mstBlk (by rw[h2 b (by simp)];exact hb);rw[r1]at q1;cases q1;have hf:fr f:=by simpa using h3 0 (by omega)
  have hbf:b≠f:=by rintro rfl;rw[(H.fr b hf).1]at r1;cases r1
  let hd2:Hd:=⟨none,w.heap.size,0,0,0⟩
  obtain⟨A',hrel⟩:=H.newOwn hf (w':=w.alloc (.mapIter (some hd1.blk) ck #[] ck)) rfl rfl rfl (by simp) (λk hk=>heap_alloc_old w _ hk) hd2 rfl rfl (.itr b st ck [])
    (λA' hA hs=>⟨rfl,hd1,by rw[ai _ _ hbf];exact r1,r2,heap_alloc_new w _⟩)
  have hrun:=run_range_map (P:=P) w t kt e hd1.blk ents ck g2 q3;have hex:(execOp a.eval o).run P w=.ok (.value (.pointer (some ⟨w.heap.size,0,none⟩))) (w.alloc (.mapIter (some hd1.blk) ck #[] ck)):=by
    unfold execOp;rw[g1];simp only[Sem.run_bind,r3,hrun,Result.andThen_ok,Sem.run_pure]
  have hfin:ay P c A' (upd μ f (some hd2)) (λb=>fr b∧¬(f≤b∧b<f+16)) (aH o.dst (.ref f 0) tm') (bR (fm { c:=True,v:=.ref f 0,ad:=some (f,.itr b st ck []) }) hp') n (a.put o.dst (.pointer (some ⟨w.heap.size,0,none⟩))) (w.alloc (.mapIter (some hd1.blk) ck #[] ck)):=by
    rw[cV];exact(hrel.free (fr':=λb=>fr b∧¬(f≤b∧b<f+16)) λb hb=>⟨hb.1,λe=>hb.2 (by omega)⟩).put o.dst hd ⟨hd2,ak _ _ _,rfl,rfl⟩
  unfold Oper.wp;rw[hex,Oper.upon_value];exact hK _ _ _ _ hfin
theorem ze{w:World}{A:Nat→Prop}{μ:Mu}{kk:Option Nat}{ks:List MK}{vs:List AV}{ents:Array MapEntry}{ck i:Nat}{e:MapEntry}(h4:cm kk ks ents ck)(h5:RVL w A vs μ (ents.toList.map (·.val)))(hi:ents.toList[i]?=some e) :
  ∃q v,ks[i]?=some q∧vs[i]?=some v∧e.key=q.v∧RV w A v μ e.val:=by
 have hl:=h4.len;have hv:=h5.length;rw[u']at hv;have hlt:i<ents.toList.length:=(P'.mp hi).1;have hlt2:i<ks.length:=by rw[←hl];simpa using hlt
 have hlt3:i<vs.length:=by omega
 refine⟨ks[i],vs[i],f' hlt2,f' hlt3,?_,h5.get2 (f' hlt3) (by rw[I',hi];rfl)⟩;have:=congrArg (·[i]?) h4.1;simp only[I',hi,f' hlt2,ai',bp']at this;exact this
theorem IM{P:Program}{n:Nat}{o:Oper}{f:Nat}{tm:Nat→AV}{hp:Hp}{x:AO}{r m ck i s0:Nat}{kk:Option Nat}{ks:List MK}{vs:List AV}{st seen:List Nat}{q:MK}{v:AV}(ho:cOp P o.op o.type=.ent x)(hd:∀d,o.dst=some d→d<n)
  (hx:evO tm x=.ref r 0) (hr:hp r=some (.itr m st ck (seen++[s0]))) (hm:hp m=some (.mst kk ks vs st ck)) (hi:st[i]?=some s0) (hq:ks[i]?=some q) (hv:vs[i]?=some v) (hk:kOk q):gq P n o f tm hp [r,m] (.tup [kAV q,v]) cB:=by
 intro c A μ fr tm' hp' a w K Q H h1 h2 h3 hK;obtain⟨x',g1,rfl⟩:=Mk ho;have hev:evO tm' (cO P x')=evO tm (cO P x'):=by
  cases h:cO P x' with
  | t t=>exact h1 t (by rw[ho,h];simp[AOp.opers])
  | c x=>rfl
 have hrr:=H.ev x';rw[hev,hx]at hrr;obtain⟨hd1,r1,r2,r3⟩:=hrr;obtain⟨hd',hm',q1,q2,q3,q4,q5⟩:=H.itrBlk (by rw[h2 r (by simp)];exact hr);rw[r1]at q1;cases q1;obtain⟨hm2,ents,p1,p2,p3,p4,p5,p6,p7⟩:=H.mstBlk (by rw[h2 m (by simp)];exact hm);rw[q3]at p1;cases p1;rw[←p7,I',av']at hi;obtain⟨e,hi,he⟩:=hi;obtain⟨q',v',e1,e2,e3,e4⟩:=ze p4 p5 hi;rw[hq]at e1;cases e1;rw[hv]at e2;cases e2;have hrun:=run_entry_at (P:=P) w hd1.blk hm'.blk ck seen.toArray ents ck e (by rw[q5,he];simp) p3 (J' hi) p4.2.2.2.1;have hex:(execOp a.eval o).run P w=.ok (.value (.tuple #[e.key,e.val])) w:=by
  unfold execOp;rw[g1];simp only[Sem.run_bind,r3,hrun,Result.andThen_ok,Sem.run_pure]
 unfold Oper.wp;rw[hex,Oper.upon_value];refine hK _ _ A μ ((H.free λb hb=>hb.1).put o.dst hd ⟨[e.key,e.val],rfl,_,_,rfl,by rw[e3];exact E0 hk,_,_,rfl,e4,rfl⟩)
theorem IK{P:Program}{n:Nat}{o:Oper}{tm:Nat→AV}{hp:Hp}{x:AO}{r m ck:Nat}{kk:Option Nat}{ks:List MK}{vs:List AV}{st seen:List Nat}(ho:cOp P o.op o.type=.nxt x)(hd:∀d,o.dst=some d→d<n)
    (hx:evO tm x=.ref r 0) (hr:hp r=some (.itr m st ck seen)) (hm:hp m=some (.mst kk ks vs st ck)) (hk:∀q∈ks,kOk q)
    {c:Ctx} {A:Nat→Prop} {μ:Mu} {fr:Nat→Prop} {a:Act} {w:World} {K:Act→World→Prop} {Q:Exit→Act→World→Prop} (H:ay P c A μ fr tm hp n a w)
    (hK0:(∀s∈st,s∈seen)→∀a',ay P c A μ fr (aH o.dst (.tup [.bool false]) tm) hp n a' w→K a' w)
    (hK1:∀(i:Nat) (q:MK) (v:AV) (s:Nat),ks[i]?=some q→vs[i]?=some v→st[i]?=some s→s ∉ seen→∀a' w',ay P c A μ fr (aH o.dst (.tup [.bool true,kAV q,v]) tm) (upd (upd hp r none) r (some (.itr m st ck (seen++[s])))) n a' w'→K a' w'):o.wp P a w K Q:=by
  obtain⟨x',g1,rfl⟩:=Mi ho;have hrr:=H.ev x';rw[hx]at hrr;obtain⟨hd1,r1,r2,r3⟩:=hrr;obtain⟨hd',hm',q1,q2,q3,q4,q5⟩:=H.itrBlk hr;rw[r1]at q1;cases q1;obtain⟨hm2,ents,p1,p2,p3,p4,p5,p6,p7⟩:=H.mstBlk hm;rw[q3]at p1;cases p1
  rcases run_next_at (P:=P) w o.type hd1.blk hm'.blk ck ck seen.toArray ents ck q5 p3 p4.2.2.1 (X' _)with⟨h0,hrun⟩|⟨e,he,w1,hal,hrun⟩
  · have hex:(execOp a.eval o).run P w=.ok (.value (.tuple #[.bool false])) w:=by
      unfold execOp;rw[g1];simp only[Sem.run_bind,r3,hrun,Result.andThen_ok,Sem.run_pure]
    unfold Oper.wp;rw[hex,Oper.upon_value];refine hK0 (λs hs=>?_) _ (H.put o.dst hd ⟨[.bool false],rfl,_,_,rfl,cn _,rfl⟩);rw[←p7]at hs;obtain⟨y,hy,rfl⟩:=aa'.mp hs;refine U' λhn=>?_;have:y∈leftOf ents seen.toArray:=by simp[leftOf,hn];simpa using hy
    have:=Array.eq_empty_of_size_eq_zero h0
    simp_all
  · have he':e∈ents.toList∧e.born ∉ seen:=by simpa[leftOf]using he
    obtain⟨i,hi⟩:=ac'.mp he'.1;obtain⟨q,v,e1,e2,e3,e4⟩:=ze p4 p5 hi;have hex:(execOp a.eval o).run P w=.ok (.value (.tuple #[.bool true,e.key,e.val])) (ChangeMaps.setBlock w1 hd1.blk (.mapIter (some hm'.blk) ck (seen.toArray.push e.born) ck)):=by
      unfold execOp;rw[g1];simp only[Sem.run_bind,r3,hrun,Result.andThen_ok,Sem.run_pure]
    have H1:ay P c A μ fr tm hp n a w1∧cK A w w1:=by
      rcases hal with rfl|rfl
      · exact⟨H,cK.refl A _⟩
      · obtain⟨h1,h2⟩:=H.step (w':=w.drew) rfl rfl rfl (X' _) hp (λ_ _ h=>h) (λ_ _ _=>rfl) (λ_=>False) (λ_ h=>h.elim)
        have hA:(λx=>A x∨False)=A:=by funext x;simp
        rw[hA]at h1;exact⟨h1,h2⟩
    have hw1:w1.heap=w.heap:=by rcases hal with rfl|rfl<;>rfl
    have H2:=H1.1.writeObj (x:=.itr m st ck (seen++[e.born])) hr r1 r2 (.mapIter (some hm'.blk) ck (seen.toArray.push e.born) ck) λw' hw' hs=>⟨r2,hm',q3,q4,by
      rw[hw'];show(w1.heap.setIfInBounds hd1.blk _)[hd1.blk]?=_;have hlt:hd1.blk<w1.heap.size:=by rw[hw1];exact(aT'.mp q5).1
      rw[Array.getElem?_setIfInBounds_self_of_lt hlt];simp⟩
    have hs2:cK A w1 { w1 with heap:=w1.heap.setIfInBounds hd1.blk (.mapIter (some hm'.blk) ck (seen.toArray.push e.born) ck) }:=λb hb=>by
      obtain⟨_,_,_,g3⟩:=H1.1.blk r _ hr;rename_i hdx g1x g2x;rw[r1]at g1x;cases g1x;have:=(g3 r2).1;show(w1.heap.setIfInBounds hd1.blk _)[b]?=w1.heap[b]?;rw[bH'];rintro rfl;exact this hb
    unfold Oper.wp;rw[hex,Oper.upon_value];refine hK1 i q v e.born e1 e2 (by rw[←p7,I',hi];rfl) he'.2 _ _ ((H2.put o.dst hd (v:=.tup [.bool true,kAV q,v]) (cv:=.tuple #[.bool true,e.key,e.val]) ?_));refine⟨[.bool true,e.key,e.val],rfl,_,_,rfl,cn _,_,_,rfl,by rw[e3];exact E0 (hk q (J' e1)),_,_,rfl,?_,rfl⟩;exact(e4.mono H1.2 (λ_ h=>h) _ (bu.refl _)).mono hs2 (λ_ h=>h) _ (bu.refl _)
def tU(P:Program)(n:Nat)(fid:FuncId)(args:List AV)(hp:Hp)(foot:List Nat)(v:AV):Prop:=
 ∀(c:Ctx) (A:Nat→Prop) (μ:Mu) (fr:Nat→Prop) (tm':Nat→AV) (hp':Hp) (a:Act) (w:World) (cargs:List Value),ay P c A μ fr tm' hp' n a w→(∀b∈foot,hp' b=hp b)→RVL w A args μ cargs →
  ∃cv,(callFunc fid cargs.toArray).run P w=.ok (.value cv) w∧RV w A v μ cv
def aN (P : Program) (n : Nat) (fid : FuncId) (args : List AV) (f : Nat) (hp : Hp) (foot : List Nat) (v : AV) (e : Eff) : Prop :=
  (∃ fn, P.funcs[fid]? = some fn ∧ fn.body.isSome = true ∧ (fn.name == "runtime.NumGoroutine") = false) ∧
  ∀ (c : Ctx) (A : Nat → Prop) (μ : Mu) (fr : Nat → Prop) (tm' : Nat → AV) (hp' : Hp) (a : Act) (w : World) (cargs : List Value),
    ay P c A μ fr tm' hp' n a w → (∀ b ∈ foot, hp' b = hp b) → (∀ j, j < 16 → fr (f + j)) → RVL w A args μ cargs →
    Calls P fid cargs.toArray w fun e' w' => ∃ cv A' μ', e' = .returned cv ∧ ay P c A' μ' (fun b => fr b ∧ ¬ (f ≤ b ∧ b < f + 16)) tm' (bR e hp') n a w' ∧ RV w' A' v μ' cv
theorem nW {P : Program} {w : World} {a : Act} {o : Oper} {g : Operand} {args : Array Operand} {ts : Array TypeId} (ho : o.op = .call { callee := .value g, args := args, argTypes := ts })
    {fid : FuncId} {caps : Array Value} (hg : a.eval g = .func (.func fid) #[] caps) {fn : Func} (hf : P.funcs[fid]? = some fn) (hb : fn.body.isSome = true) (hn : (fn.name == "runtime.NumGoroutine") = false) :
    (execOp a.eval o).run P w = .ok (.enter fid (args.map a.eval ++ caps)) w := by
  have hb' : fn.body.isNone = false := by cases h : fn.body <;> simp_all
  unfold execOp;rw [ho];simp only [resolve, hg, Deferred.ofValue, Sem.run_bind, Sem.run_pure, Result.andThen_ok, invoke, callFunc, run_program, hf, hn, hb', aS', ↓reduceIte];simp
theorem Bp{P:Program}{ptr:Bool}{op:BinOp}{x y:Operand}{g:AO}{xs:List AO}(h:il P ptr op x y=.call g xs):False:=by
 unfold il at h
 split at h
 ·split at h<;>cases h
 ·cases h
theorem og{P:Program}{op:Op}{ty:TypeId}{g:AO}{xs:List AO}(ho:cOp P op ty=.call g xs) :
    ∃g' args ts,op=.call { callee:=.value g',args:=args,argTypes:=ts }∧g=cO P g'∧xs=args.toList.map (cO P):=by
  cases op with
  | call c =>
    obtain⟨callee,args,ts⟩:=c;cases callee with
    | value g'=>simp only[cOp,dh,AOp.call.injEq]at ho;exact⟨g',args,ts,rfl,ho.1.symm,ho.2.symm⟩
    | invoke r m=>simp[cOp,dh]at ho
    | builtin b =>
      simp only[cOp,dh]at ho
      (repeat' split at ho)<;>cases ho
  | makeFunc fn first captured =>
    cases fn<;>simp only[cOp]at ho<;>(repeat' split at ho)<;>cases ho
  | makeMap t r=>cases r<;>simp only[cOp]at ho<;>(repeat' split at ho)<;>cases ho
  | typeAssert x' st t ok=>cases ok<;>simp only[cOp]at ho<;>(repeat' split at ho)<;>cases ho
  | next x' b=>cases b<;>simp only[cOp]at ho<;>cases ho
  | binOp op t x y yt =>
    simp only[cOp]at ho
    (repeat' split at ho)<;>first|exact(Bp ho).elim|cases ho
  | _=>simp only[cOp,jJ]at ho<;>(repeat' split at ho)<;>cases ho
theorem vV{P:Program}{w:World}{a:Act}{o:Oper}{g:Operand}{args:Array Operand}{ts:Array TypeId}(ho:o.op=.call { callee:=.value g,args:=args,argTypes:=ts })
    {fid:FuncId} {caps:Array Value} (hg:a.eval g=.func (.func fid) #[] caps) :
    (execOp a.eval o).run P w=(callFunc fid (args.map a.eval++caps)).run P w:=by
  unfold execOp;rw[ho];simp only[resolve,hg,Deferred.ofValue,Sem.run_bind,Sem.run_pure,Result.andThen_ok,invoke];simp
theorem xt{P:Program}{n:Nat}{o:Oper}{f:Nat}{tm:Nat→AV}{hp:Hp}{g:AO}{xs:List AO}(ho:cOp P o.op o.type=.call g xs)(hd:∀d,o.dst=some d→d<n)
  {fid:FuncId} {caps:List AV} (hg:evO tm g=.func fid caps) {foot:List Nat} {v:AV} (h:tU P n fid (xs.map (evO tm)++caps) hp foot v):gq P n o f tm hp foot v cB:=by
 intro c A μ fr tm' hp' a w K Q H h1 h2 h3 hK;have hev:∀x∈(cOp P o.op o.type).opers,evO tm' x=evO tm x:=by
  intro x hx;cases x with
  | t t=>exact h1 t hx
  | c x=>rfl
 have hop:=og ho;obtain⟨g',args,ts,ho',rfl,rfl⟩:=hop;rw[ho]at hev;have hg':=hev (cO P g') (by simp[AOp.opers]);have hgr:=H.ev g';rw[hg',hg]at hgr;obtain⟨cvs,e1,e2⟩:=hgr;have hxs:(args.toList.map (cO P)).map (evO tm)=args.toList.map λx=>evO tm' (cO P x):=by
  rw[aZ'];refine an' λx hx=>?_;exact(hev (cO P x) (by simp only[AOp.opers,ah',aa'];exact .inr ⟨x,hx,rfl⟩)).symm
 rw[hxs]at h;have hargs:=(H.evs args.toList).append e2;obtain⟨cv,q1,q2⟩:=h c A μ fr tm' hp' a w _ H h2 hargs;unfold Oper.wp;have ea:args.map a.eval++cvs.toArray=(args.toList.map a.eval++cvs).toArray:=by apply aQ';simp
 rw[vV ho' e1,ea,q1,Oper.upon_value];exact hK _ _ _ _ ((H.free λb hb=>hb.1).put o.dst hd q2)
theorem rl{P:Program}{n:Nat}{o:Oper}{f:Nat}{tm:Nat→AV}{hp:Hp}{g:AO}{xs:List AO}(ho:cOp P o.op o.type=.call g xs)(hd:∀d,o.dst=some d→d<n)
  {fid:FuncId} {caps:List AV} (hg:evO tm g=.func fid caps) {foot:List Nat} {v:AV} {e:Eff} (h:aN P n fid (xs.map (evO tm)++caps) f hp foot v e):gq P n o f tm hp foot v e:=by
 intro c A μ fr tm' hp' a w K Q H h1 h2 h3 hK;have hev:∀x∈(cOp P o.op o.type).opers,evO tm' x=evO tm x:=by
  intro x hx;cases x with
  | t t=>exact h1 t hx
  | c x=>rfl
 obtain⟨⟨fn,f1,f2,f3⟩,hcall⟩:=h;have hop:=og ho;obtain⟨g',args,ts,ho',rfl,rfl⟩:=hop;rw[ho]at hev;have hg':=hev (cO P g') (by simp[AOp.opers]);have hgr:=H.ev g';rw[hg',hg]at hgr;obtain⟨cvs,e1,e2⟩:=hgr;have hxs:(args.toList.map (cO P)).map (evO tm)=args.toList.map λx=>evO tm' (cO P x):=by
  rw[aZ'];refine an' λx hx=>?_;exact(hev (cO P x) (by simp only[AOp.opers,ah',aa'];exact .inr ⟨x,hx,rfl⟩)).symm
 rw[hxs]at hcall;have hargs:=(H.evs args.toList).append e2;have:=hcall c A μ fr tm' hp' a w _ H h2 h3 hargs;unfold Oper.wp;rw[nW ho' e1 f1 f2 f3,Oper.upon_enter];have ea:args.map a.eval++cvs.toArray=(args.toList.map a.eval++cvs).toArray:=by apply aQ';simp
 rw[ea];refine this.mono ?_;rintro e' w' ⟨cv,A',μ',rfl,r1,r2⟩;exact hK _ _ _ _ (r1.put o.dst hd r2)
end Go.Am
namespace Go.Am
def iK (P : Program) (fid : FuncId) : Prop := ∃ fn, P.funcs[fid]? = some fn ∧ fn.body.isSome = true ∧ (fn.name == "runtime.NumGoroutine") = false
theorem Ext.step{P:Program}{c:Ctx}{A:Nat→Prop}{μ:Mu}{fr:Nat→Prop}{tm:Nat→AV}{hp:Hp}{n:Nat}{a:Act}{w w':World}(H:ay P c A μ fr tm hp n a w)
  (h:Ext (λ_=>False) w w') (A':Nat→Prop) (h1:∀b,A b→A' b) (h2:∀b,A' b→A b∨w.heap.size≤b) (h3:∀b,A' b→b<w'.heap.size):ay P c A' μ fr tm hp n a w':=by
 obtain⟨r,_⟩:=H.step h.os h.tape h.output h.size hp (λ_ _ h=>h) (λk hk _=>h.block k hk (λh=>h)) (λb=>A' b∧w.heap.size≤b) (λb hb=>⟨hb.2,h3 b hb.1⟩);have:(λb=>A b∨(A' b∧w.heap.size≤b))=A':=by
  funext b
  apply propext
  constructor
  ·rintro(h|h)
   ·exact h1 b h
   ·exact h.1
  ·intro h
   rcases h2 b h with h'|h'
   ·exact .inl h'
   ·exact .inr ⟨h,h'⟩
 rwa [this]at r
theorem aN.pure{P:Program}{n:Nat}{fid:FuncId}{args:List AV}{f:Nat}{hp:Hp}{r:AV}(hf:iK P fid)(hs:bT P fid args r)(hp1:aD args):aN P n fid args f hp [] r cB:=by
 refine⟨hf,?_⟩;intro c A μ fr tm' hp' a w cargs H _ _ h3;refine(hs w A cargs H.lt (RVL.pure hp1 h3)).mono ?_;rintro e w' ⟨v,A',rfl,r1,r2,r3,r4,r5⟩;exact⟨v,A',μ,rfl,(Ext.step H r2 A' r3 r4 r5).free λb hb=>hb.1,r1.up⟩
def dE(foot:List Nat)(hp:Hp)(x y:AV):Prop:=
 ∀(P:Program) (c:Ctx) (A:Nat→Prop) (μ:Mu) (fr:Nat→Prop) (tm':Nat→AV) (hp':Hp) (n:Nat) (a:Act) (w:World) (cv:Value),ay P c A μ fr tm' hp' n a w→(∀b∈foot,hp' b=hp b) →
  RV w A x μ cv→RV w (λb=>A b∨cr μ hp' b) y eK cv
def lb(foot:List Nat)(hp:Hp):List AV→List AV→Prop
 | [],[]=>True
 | x::xs,y::ys=>dE foot hp x y∧lb foot hp xs ys
 | _,_=>False
theorem lb.rvl{P:Program}{foot:List Nat}{hp:Hp}{c:Ctx}{A:Nat→Prop}{μ:Mu}{fr:Nat→Prop}{tm':Nat→AV}{hp':Hp}{n:Nat}{a:Act}{w:World}(H:ay P c A μ fr tm' hp' n a w)(hh:∀b∈foot,hp' b=hp b) :
  ∀{xs ys:List AV} {vs:List Value},lb foot hp xs ys→RVL w A xs μ vs→RVL w (λb=>A b∨cr μ hp' b) ys eK vs
 | [],[],_,_,h=>h
 | x::xs,y::ys,_,hv,⟨v,vs',h1,h2,h3⟩=>⟨v,vs',h1,hv.1 P c A μ fr tm' hp' n a w v H hh h2,lb.rvl H hh hv.2 h3⟩
 | [],_::_,_,hv,_=>hv.elim
 | _::_,[],_,hv,_=>hv.elim
theorem dE.pure{foot:List Nat}{hp:Hp}{x:AV}(h:x.pure):dE foot hp x x:=
 λP c A μ fr tm' hp' n a w cv H _ hv=>RV.pure h (hv.mono (cK.refl A w) (λb hb=>.inl hb) x (bu.refl _))
theorem dE.ref{foot:List Nat}{hp:Hp}{b off:Nat}{x:AV}(hb:b∈foot)(h:hp b=some (.box x))(hx:x.pure):dE foot hp (.ref b off) (.rptr x off):=by
 intro P c A μ fr tm' hp' n a w cv H hh hv;obtain⟨hd,e1,e2,rfl⟩:=hv;obtain⟨hd',v,ty,f1,f2,f3,f4,f5,f6⟩:=H.box ((hh b hb).trans h);rw[e1]at f1;cases f1;obtain⟨hd',g1,_,g3⟩:=H.blk b _ ((hh b hb).trans h);rw[e1]at g1;cases g1;refine⟨hd.blk,0,v,by simp,.inr ⟨b,_,hd,(hh b hb).trans h,e1,e2,rfl⟩,RV.pure hx (f4.mono (cK.refl A w) (λb hb=>.inl hb) x (bu.refl _)),(RV.cells f3 f4).2,λp u hu=>f6 p u hu⟩
theorem dE.vec{foot:List Nat}{hp:Hp}{b k:Nat}{es:List AV}(hb:b∈foot)(h:hp b=some (.vec k es))(hx:aD es):dE foot hp (.vec b) (.sl k es false):=by
 intro P c A μ fr tm' hp' n a w cv H hh hv;obtain⟨hd,e1,rfl⟩:=hv;obtain⟨hd',f1,f2,f3⟩:=H.vec ((hh b hb).trans h);rw[e1]at f1;cases f1;obtain⟨hd',g1,_,g3⟩:=H.blk b _ ((hh b hb).trans h);rw[e1]at g1;cases g1
 rcases f3 with⟨rfl,a',f3⟩|⟨g1,g2,g4,g5,C,ty,vs,k1,k2,k3,k4,k5,k6,k7⟩
 ·rw[Hd.val,f3];exact .inl ⟨rfl,a',rfl⟩
 ·have hv:hd.val=.slice (some ⟨hd.blk,0,none⟩) es.length hd.cap:=by rw[Hd.val,g1,g2]
  rw[hv];refine .inr ⟨hd.blk,0,hd.cap,vs,rfl,.inr ⟨b,_,hd,(hh b hb).trans h,e1,g1,rfl⟩,by omega,g5,(λh=>by cases h),RVL.pure hx (RVL.mono (cK.refl A w) (λb hb=>.inl hb) es (bu.refl _) k2),λv hv=>⟨k4 v hv,?_⟩,λp u hu=>by rw[az'];exact k7 p u hu,k3⟩;obtain⟨i,hi⟩:=ac'.1 hv;have hlt:i<es.length:=by rw[k2.length];exact(P'.1 hi).1
  have hxe:es[i]?=some es[i]:=f' hlt;exact(RV.cells (k3 _ (aR' hlt)) (k2.get2 hxe hi)).2
theorem dE.map{foot:List Nat}{hp:Hp}{b:Nat}{kk:Option Nat}{ks:List MK}{vs:List AV}(hb:b∈foot)(h:hp b=some (.map kk ks vs))(hx:aD vs):dE foot hp (.mref b) (.mp kk ks vs):=by
 intro P c A μ fr tm' hp' n a w cv H hh hv;obtain⟨hd,e1,e2,rfl⟩:=hv;obtain⟨hd',ents,clock,g1,g2,g3,g4,g5,g6⟩:=H.mapBlk ((hh b hb).trans h);rw[e1]at g1;cases g1;exact⟨_,ents,clock,rfl,.inr ⟨b,_,hd,(hh b hb).trans h,e1,e2,rfl⟩,g3,g4,RVL.pure hx (RVL.mono (cK.refl A w) (λb hb=>.inl hb) vs (bu.refl _) g5),g6⟩
theorem dE.agg{foot:List Nat}{hp:Hp}{xs ys:List AV}(h:lb foot hp xs ys):dE foot hp (.agg xs) (.agg ys):=by
 rintro P c A μ fr tm' hp' n a w cv H hh ⟨vs,e1,e2,e3⟩;exact⟨vs,e1,h.rvl H hh e2,e3⟩
theorem dE.func{foot:List Nat}{hp:Hp}{g:FuncId}{xs ys:List AV}(h:lb foot hp xs ys):dE foot hp (.func g xs) (.func g ys):=by
 rintro P c A μ fr tm' hp' n a w cv H hh ⟨vs,e1,e2⟩;exact⟨vs,e1,h.rvl H hh e2⟩
theorem aN.lend{P:Program}{n:Nat}{fid:FuncId}{args args':List AV}{f:Nat}{hp:Hp}{foot:List Nat}{r:AV}(hf:iK P fid)(hs:bT P fid args' r)(hv:lb foot hp args args')(hr:r.flat) :
  aN P n fid args f hp foot r cB:=by
 refine⟨hf,?_⟩;intro c A μ fr tm' hp' a w cargs H h1 _ h3
 refine(hs w (λb=>A b∨cr μ hp' b) cargs (H.lt.mono (cK.refl A w) (λb hb=>.inl hb) λb h=>?_) (hv.rvl H h1 h3)).mono ?_
 ·rcases h with h|⟨b',x,hd,e1,e2,e3,rfl⟩
  ·exact H.lt b h
  ·obtain⟨hd',g1,_,g3⟩:=H.blk b' x e1;rw[e2]at g1;cases g1;exact(g3 e3).2.1
 rintro e w' ⟨v,A',rfl,r1,r2,r3,r4,r5⟩;exact⟨v,A,μ,rfl,(Ext.step H r2 A (λ_ h=>h) (λ_ h=>.inl h) (λb hb=>bm' (H.lt b hb) r2.size)).free λb hb=>hb.1,RV.flat hr r1⟩
def dT:List (Nat×Option Blk)→Eff
 | []=>cB
 | (b,x)::l=>λc=>if c=b then some x else dT l c
theorem bw(b:Nat)(x:Option Blk)(l:List (Nat×Option Blk))(hp:Hp):bR (dT ((b,x)::l)) hp=upd (bR (dT l) hp) b x:=by
 funext c
 by_cases h:c=b
 ·subst h;simp[bR,dT,upd]
 ·have:dT ((b,x)::l) c=dT l c:=by
   show(if c=b then some x else dT l c)=_;rw[E' h]
  simp only[bR,this,upd,E' h]
theorem ek(hp:Hp):bR (dT []) hp=hp:=rfl
def aI(bs:List Nat)(f:Nat)(i:Nat):Nat:=if i<bs.length then bs.getD i 0 else f+(i-bs.length)
def bI(bs:List Nat)(f:Nat)(h':List (Option Blk)):Eff:=
 dT (h'.zipIdx.map λ(x,i)=>(aI bs f i,x.map (Blk.ren (aI bs f))))
theorem oX(bs:List Nat)(f:Nat)(g:Option Blk→Option Blk):∀(h':List (Option Blk)) (k:Nat) (b:Nat),
  (∀i j,k≤i→i<k+h'.length→k≤j→j<k+h'.length→aI bs f i=aI bs f j→i=j) →
  (∀i,k≤i→i<k+h'.length→aI bs f i=b→dT ((h'.zipIdx k).map λ(x,i)=>(aI bs f i,g x)) b=some (g (h'.getD (i-k) none))) ∧
  ((∀i,k≤i→i<k+h'.length→aI bs f i≠b)→dT ((h'.zipIdx k).map λ(x,i)=>(aI bs f i,g x)) b=none)
 | [],k,b,_=>⟨λi h1 h2=>by simp at h2;omega,λ_=>rfl⟩
 | x::h',k,b,hinj=>by
  obtain⟨ih1,ih2⟩:=oX bs f g h' (k+1) b (λi j h1 h2 h3 h4=>hinj i j (by omega) (by simp;omega) (by omega) (by simp;omega))
  refine⟨λi h1 h2 h3=>?_,λhn=>?_⟩
  ·simp only[List.zipIdx_cons,aE',dT]
   by_cases hik:i=k
   ·subst hik;rw[F' h3.symm];simp
   ·have hne:b≠aI bs f k:=by
     rintro rfl;exact hik (hinj i k h1 h2 (X' _) (by simp) h3)
    rw[E' hne,ih1 i (by omega) (by simp at h2;omega) h3]
    congr 2
    have:i-k=(i-(k+1))+1:=by omega
    rw[this];rfl
  ·simp only[List.zipIdx_cons,aE',dT];rw[E' (Ne.symm (hn k (X' _) (by simp)))];exact ih2 λi h1 h2=>hn i (by omega) (by simp;omega)
theorem cu{l:List Blk}{i:Nat}{x:Blk}:bc (l.map some) i=some x↔l[i]?=some x:=by
 simp[bc,Option.join_eq_some_iff]
theorem cg{l:List (Option Blk)}{i:Nat}{x:Blk}:bc l i=some x↔l[i]?=some (some x):=by
 simp[bc,Option.join_eq_some_iff]
def ND(P:Program)(w:World)(A:Nat→Prop)(μ:Mu)(h:List Blk)(r:AV)(h':List (Option Blk))(e:Ending)(w':World):Prop:=
 ∃v A' μ',e=.returned v∧RV w' A' r μ' v∧kc P w' A' μ' (bc h')∧bu μ μ'∧Ext (cr μ (bc (h.map some))) w w' ∧
   (∀b,A b→A' b)∧(∀b,A' b→A b∨cr μ (bc (h.map some)) b∨w.heap.size≤b) ∧
   (∀b,cr μ' (bc h') b→cr μ (bc (h.map some)) b∨w.heap.size≤b)
def eQ(P:Program)(f:FuncId)(args:List AV)(h:List Blk)(Qr:AV→List (Option Blk)→Prop):Prop:=
 ∀(w:World) (A:Nat→Prop) (μ:Mu) (cargs:List Value),kc P w A μ (bc (h.map some))→(∀b,h.length≤b→μ b=none)→RVL w A args μ cargs →
  Calls P f cargs.toArray w λe w'=>∃r h',Qr r h'∧ND P w A μ h r h' e w'
theorem aF.toE{P:Program}{f:FuncId}{args:List AV}{h:List Blk}{r:AV}{h':List (Option Blk)}(hs:aF P f args h r h'):eQ P f args h (λr0 h0=>r0=r∧h0=h'):=
 λw A μ cargs h1 h2 h3=>(hs w A μ cargs h1 h2 h3).mono λe w' q=>⟨r,h',⟨rfl,rfl⟩,q⟩
theorem eQ.toS{P:Program}{f:FuncId}{args:List AV}{h:List Blk}{r:AV}{h':List (Option Blk)}(hs:eQ P f args h (λr0 h0=>r0=r∧h0=h')):aF P f args h r h':=
 λw A μ cargs h1 h2 h3=>(hs w A μ cargs h1 h2 h3).mono λe w'=>by rintro⟨_,_,⟨rfl,rfl⟩,q⟩;exact q
def jr (P : Program) (n : Nat) (fid : FuncId) (args : List AV) (f : Nat) (hp : Hp) (foot : List Nat) (Qv : AV → Eff → Prop) : Prop :=
  (∃ fn, P.funcs[fid]? = some fn ∧ fn.body.isSome = true ∧ (fn.name == "runtime.NumGoroutine") = false) ∧
  ∀ (c : Ctx) (A : Nat → Prop) (μ : Mu) (fr : Nat → Prop) (tm' : Nat → AV) (hp' : Hp) (a : Act) (w : World) (cargs : List Value),
    ay P c A μ fr tm' hp' n a w → (∀ b ∈ foot, hp' b = hp b) → (∀ j, j < 16 → fr (f + j)) → RVL w A args μ cargs →
    Calls P fid cargs.toArray w fun e' w' => ∃ v e, Qv v e ∧ ∃ cv A' μ', e' = .returned cv ∧ ay P c A' μ' (fun b => fr b ∧ ¬ (f ≤ b ∧ b < f + 16)) tm' (bR e hp') n a w' ∧ RV w' A' v μ' cv
theorem jr.hand{P:Program}{n:Nat}{fid:FuncId}{args:List AV}{f:Nat}{hp:Hp}{h:List Blk}{Qr:AV→List (Option Blk)→Prop}(hf:iK P fid)(hs:eQ P fid args h Qr)(bs:List Nat)
  (hl:bs.length=h.length) (hnd:bs.Nodup) (hargs:gW h.length args) (hblk:∀(i:Nat) (b:Nat) (x:Blk),bs[i]?=some b→h[i]?=some x→x.bel h.length∧hp b=some (x.ren (aI bs f)))
  (hQ:∀r h',Qr r h'→h.length≤h'.length∧h'.length≤h.length+16∧r.bel h'.length∧∀x,some x∈h'→x.bel h'.length) :
  jr P n fid (cG (aI bs f) args) f hp bs (λv e=>∃r h',Qr r h'∧v=r.ren (aI bs f)∧e=bI bs f h'):=by
 refine⟨hf,?_⟩;intro c A μ fr tm' hp' a w cargs H h1 hfr h3
 -- the callee's heads
 have hbs:∀i,i<h.length→∃b x hd,bs[i]?=some b∧h[i]?=some x∧aI bs f i=b∧hp' b=some (x.ren (aI bs f))∧μ b=some hd∧x.bel h.length:=by
  intro i hi;have hib:i<bs.length:=by omega
  have e1:bs[i]?=some bs[i]:=f' hib;have e2:h[i]?=some h[i]:=f' hi;obtain⟨e3,e4⟩:=hblk i _ _ e1 e2;have e5:hp' bs[i]=some (h[i].ren (aI bs f)):=(h1 _ (aR' hib)).trans e4;obtain⟨hd,e6,_⟩:=H.blk _ _ e5;refine⟨bs[i],h[i],hd,e1,e2,?_,e5,e6,e3⟩;unfold aI;rw[F' hib];simp[List.getD,e1]
 let μc:Mu:=λi=>if i<h.length then μ (aI bs f i)else none
 have hμc:∀i,i<h.length→μc i=μ (aI bs f i):=λi hi=>by simp[μc,hi]
 have hun:∀b,b<h.length→∀hd,μ (aI bs f b)=some hd→μc b=some hd:=λb hb hd e=>by rw[hμc b hb];exact e
 have hpi:∀i j,i<h.length→j<h.length→aI bs f i=aI bs f j→i=j:=by
  intro i j hi hj e;unfold aI at e;rw[F' (by omega),F' (by omega)]at e;have e1:bs[i]?=bs[j]?:=by
   rw[f' (show i<bs.length by omega),f' (show j<bs.length by omega)]at *
   simpa[List.getD,f' (show i<bs.length by omega),f' (show j<bs.length by omega)]using e
  exact(List.getElem?_inj (show i<bs.length by omega) hnd).1 e1
 have hHeap:kc P w A μc (bc (h.map some)):=by
  refine⟨λb x hx=>?_,λb b' x x' hd hd' hx hx' hm hm' he he' heq=>?_,H.lt⟩
  ·have hx:=cu.1 hx;have hb:b<h.length:=(P'.1 hx).1;obtain⟨b0,x0,hd,e1,e2,e3,e4,e5,e6⟩:=hbs b hb;rw[hx]at e2;cases e2;obtain⟨hd',g1,g2,g3⟩:=H.blk _ _ e4;rw[e5]at g1;cases g1;exact⟨hd,by rw[hμc b hb,e3];exact e5,g2.unren hun e6,λhe=>⟨(g3 he).1,(g3 he).2.1⟩⟩
  ·have hx:=cu.1 hx;have hx':=cu.1 hx';have hb:b<h.length:=(P'.1 hx).1;have hb1:b'<h.length:=(P'.1 hx').1;obtain⟨b0,x0,hd0,e1,e2,e3,e4,e5,e6⟩:=hbs b hb;obtain⟨b1,x1,hd1,f1,f2,f3,f4,f5,f6⟩:=hbs b' hb1;rw[hμc b hb]at hm;rw[hμc b' hb1]at hm';rw[←e3]at e4;rw[←f3]at f4;exact hpi b b' hb hb1 (H.inj _ _ _ _ hd hd' e4 f4 hm hm' he he' heq)
 have hown:∀k,cr μc (bc (h.map some)) k→∃b x hd,b∈bs∧hp' b=some x∧μ b=some hd∧hd.emp=none∧hd.blk=k:=by
  rintro k ⟨i,x,hd,hx,hm,he,hk⟩;have hx:=cu.1 hx;have hi:i<h.length:=(P'.1 hx).1;obtain⟨b0,x0,hd0,e1,e2,e3,e4,e5,e6⟩:=hbs i hi;rw[hμc i hi,e3]at hm;exact⟨b0,_,hd,J' e1,e4,hm,he,hk⟩
 refine(hs w A μc cargs hHeap (λb hb=>by simp[μc];omega) (RVL.unren hun hargs h3)).mono ?_;rintro e w' ⟨r,h',hq,v,A',μ',rfl,r1,r2,r3,r4,r5,r6,r7⟩;obtain⟨hk,hk',hr,hb'⟩:=hQ r h' hq
 let μ2:Mu:=λb=>if f≤b∧b<f+16 then μ' (h.length+(b-f))else μ b
 have hfree:∀b,f≤b→b<f+16→μ b=none∧hp' b=none:=by
  intro b hb1 hb2;have:=hfr (b-f) (by omega);rw[show f+(b-f)=b by omega]at this;exact H.fr b this
 have hμ2:bu μ μ2:=by
  intro b hd hb;simp only[μ2]
  split
  ·rename_i hc;rw[(hfree b hc.1 hc.2).1]at hb;cases hb
  ·exact hb
 have hren:∀b,b<h'.length→∀hd,μ' b=some hd→μ2 (aI bs f b)=some hd:=by
  intro b hb hd e
  by_cases hbk:b<h.length
  ·obtain⟨b0,x0,hd0,e1,e2,e3,e4,e5,e6⟩:=hbs b hbk;have:μ' b=some hd0:=r3 b hd0 (by rw[hμc b hbk,e3];exact e5);rw[this]at e;cases e;rw[e3];exact hμ2 _ _ e5
  ·have e1:aI bs f b=f+(b-h.length):=by unfold aI;rw[E' (by omega),hl]
   rw[e1];simp only[μ2];rw[F' (by omega)];have:h.length+(f+(b-h.length)-f)=b:=by omega
   rw[this];exact e
 have hSame:cK A w w':=by
  intro b hb;refine r4.block b (H.lt b hb) λho=>?_;obtain⟨b0,x,hd,_,g1,g2,g3,g4⟩:=hown b ho;obtain⟨hd',g5,_,g6⟩:=H.blk _ _ g1;rw[g2]at g5;cases g5;exact(g6 g3).1 (g4 ▸ hb)
 have hpi2:∀i j,i<h'.length→j<h'.length→aI bs f i=aI bs f j→i=j:=by
  intro i j hi hj e
  by_cases hik:i<h.length
  ·by_cases hjk:j<h.length
   ·exact hpi i j hik hjk e
   ·exfalso;obtain⟨b0,x0,hd0,e1,e2,e3,e4,e5,e6⟩:=hbs i hik;have e1:aI bs f j=f+(j-h.length):=by unfold aI;rw[E' (by omega),hl]
    rw[e3,e1]at e;have:=(hfree b0 (by omega) (by omega)).1;rw[this]at e5;cases e5
  ·by_cases hjk:j<h.length
   ·exfalso;obtain⟨b0,x0,hd0,e1,e2,e3,e4,e5,e6⟩:=hbs j hjk;have e1:aI bs f i=f+(i-h.length):=by unfold aI;rw[E' (by omega),hl]
    rw[e3,e1]at e;have:=(hfree b0 (by omega) (by omega)).1;rw[this]at e5;cases e5
   ·unfold aI at e;rw[E' (by omega),E' (by omega)]at e;omega
 have heff:∀b,(∃i,i<h'.length∧aI bs f i=b∧bI bs f h' b=some ((h'.getD i none).map (Blk.ren (aI bs f))))∨((∀i,i<h'.length→aI bs f i≠b)∧bI bs f h' b=none):=by
  intro b;obtain⟨s1,s2⟩:=oX bs f (λx=>x.map (Blk.ren (aI bs f))) h' 0 b (λi j _ h2 _ h4=>hpi2 i j (by omega) (by omega))
  by_cases hex:∃i,i<h'.length∧aI bs f i=b
  ·obtain⟨i,hi,hb⟩:=hex;exact .inl ⟨i,hi,hb,by simpa[bI]using s1 i (by omega) (by omega) hb⟩
  ·have hn:∀i,i<h'.length→aI bs f i≠b:=λi hi hb=>hex ⟨i,hi,hb⟩;exact .inr ⟨hn,by simpa[bI]using s2 λi _ hi=>hn i (by omega)⟩
 have hblk2:∀b x,bR (bI bs f h') hp' b=some x→(∃i y,i<h'.length∧aI bs f i=b∧h'[i]?=some (some y)∧x=y.ren (aI bs f))∨((∀i,i<h'.length→aI bs f i≠b)∧hp' b=some x):=by
  intro b x hx
  rcases heff b with⟨i,hi,hb,he⟩|⟨hn,he⟩
  ·left;simp only[bR,he]at hx;cases hy:h'.getD i none with
   | none=>rw[hy]at hx;simp at hx
   | some y =>
    rw[hy]at hx;simp at hx;refine⟨i,y,hi,hb,?_,hx.symm⟩;have:h'[i]?=some h'[i]:=f' hi;simp[List.getD,this]at hy;rw[this,hy]
  ·right;simp only[bR,he]at hx;exact⟨hn,hx⟩
 have hold:∀b x hd,(∀i,i<h'.length→aI bs f i≠b)→hp' b=some x→μ b=some hd→hd.emp=none→w'.heap[hd.blk]?=w.heap[hd.blk]?∧¬cr μc (bc (h.map some)) hd.blk:=by
  intro b x hd hn hx hm he;obtain⟨hd',g5,_,g6⟩:=H.blk _ _ hx;rw[hm]at g5;cases g5;have hno:¬cr μc (bc (h.map some)) hd.blk:=by
   intro ho;obtain⟨b0,x0,hd0,k1,k2,k3,k4,k5⟩:=hown _ ho;have:=H.inj _ _ _ _ _ _ k2 hx k3 hm k4 he k5;subst this;obtain⟨i,hi⟩:=ac'.1 k1;have hib:i<bs.length:=(P'.1 hi).1;refine hn i (by omega) ?_;unfold aI;rw[F' hib];simp[List.getD,hi]
  exact⟨r4.block _ (g6 he).2.1 hno,hno⟩
 refine⟨_,_,⟨r,h',hq,rfl,rfl⟩,v,A',μ2,rfl,?_,RV.doren hren hr r1⟩
 refine⟨λt=>(H.tm t).mono hSame r5 _ hμ2,H.n,H.df,?_,?_,r2.lt,?_,?_,λb hb=>r5 b (H.A0 b hb),?_,H.mu.trans hμ2⟩
 ·intro b x hx
  rcases hblk2 b x hx with⟨i,y,hi,hb,hy,rfl⟩|⟨hn,hx⟩
  ·obtain⟨hd,g1,g2,g3⟩:=r2.blk i y (cg.2 hy);refine⟨hd,by rw[←hb];exact hren i hi hd g1,g2.doren hren (hb' y (J' hy)),λhe=>⟨(g3 he).1,(g3 he).2,?_⟩⟩
   rcases r7 hd.blk ⟨i,y,hd,cg.2 hy,g1,he,rfl⟩with ho|ho
   ·obtain⟨b0,x0,hd0,k1,k2,k3,k4,k5⟩:=hown _ ho;obtain⟨hd',q5,_,q6⟩:=H.blk _ _ k2;rw[k3]at q5;cases q5;rw[←k5];exact(q6 k4).2.2
   ·exact .inr (aF' H.keep.size ho)
  ·obtain⟨hd,g1,g2,g3⟩:=H.blk b x hx;refine⟨hd,hμ2 _ _ g1,g2.mono hSame r5 hμ2 (λhe=>(hold b x hd hn hx g1 he).1),λhe=>⟨λhA'=>?_,bm' (g3 he).2.1 r4.size,(g3 he).2.2⟩⟩
   rcases r6 _ hA' with hq|hq|hq
   ·exact(g3 he).1 hq
   ·exact(hold b x hd hn hx g1 he).2 hq
   ·have:=(g3 he).2.1;omega
 ·intro b b' x x' hd hd' hx hx' hm hm' he he' heq
  rcases hblk2 b x hx with⟨i,y,hi,hb,hy,rfl⟩|⟨hn,hx1⟩
  ·obtain⟨hd1,g1,g2,g3⟩:=r2.blk i y (cg.2 hy);have e1:=hren i hi hd1 g1;rw[hb,hm]at e1;cases e1
   rcases hblk2 b' x' hx' with⟨i',y',hi',hb1,hy',rfl⟩|⟨hn',hx1'⟩
   ·obtain⟨hd2,k1,k2,k3⟩:=r2.blk i' y' (cg.2 hy');have e2:=hren i' hi' hd2 k1;rw[hb1,hm']at e2;cases e2;have:=r2.inj i i' y y' _ _ (cg.2 hy) (cg.2 hy') g1 k1 he he' heq;subst this;rw[←hb,←hb1]
   ·exfalso;obtain⟨hd2,k1,k2,k3⟩:=H.blk b' x' hx1';have:=hμ2 _ _ k1;rw[hm']at this;cases this
    rcases r7 hd.blk ⟨i,y,hd,cg.2 hy,g1,he,rfl⟩with ho|ho
    ·exact(hold b' x' _ hn' hx1' k1 he').2 (heq ▸ ho)
    ·have:=(k3 he').2.1;omega
  ·obtain⟨hd1,g1,g2,g3⟩:=H.blk b x hx1;have e1:=hμ2 _ _ g1;rw[hm]at e1;cases e1
   rcases hblk2 b' x' hx' with⟨i',y',hi',hb1,hy',rfl⟩|⟨hn',hx1'⟩
   ·exfalso;obtain⟨hd2,k1,k2,k3⟩:=r2.blk i' y' (cg.2 hy');have e2:=hren i' hi' hd2 k1;rw[hb1,hm']at e2;cases e2
    rcases r7 _ ⟨i',y',_,cg.2 hy',k1,he',rfl⟩with ho|ho
    ·exact(hold b x _ hn hx1 g1 he).2 (heq ▸ ho)
    ·have:=(g3 he).2.1;omega
   ·obtain⟨hd2,k1,k2,k3⟩:=H.blk b' x' hx1';have e2:=hμ2 _ _ k1;rw[hm']at e2;cases e2;exact H.inj _ _ _ _ _ _ hx1 hx1' g1 k1 he he' heq
 ·rintro b ⟨hb1,hb2⟩;obtain⟨q1,q2⟩:=H.fr b hb1;refine⟨by simp only[μ2];rw[E' hb2];exact q1,?_⟩;cases hx:bR (bI bs f h') hp' b with
  | none=>rfl
  | some x =>
   rcases hblk2 b x hx with⟨i,y,hi,hb,hy,rfl⟩|⟨hn,hx1⟩
   ·exfalso
    by_cases hik:i<h.length
    ·obtain⟨b0,x0,hd0,e1,e2,e3,e4,e5,e6⟩:=hbs i hik;rw[←e3,hb,q1]at e5;cases e5
    ·have e1:aI bs f i=f+(i-h.length):=by unfold aI;rw[E' (by omega),hl]
     rw[e1]at hb;omega
   ·rw[q2]at hx1;cases hx1
 ·refine⟨r4.os.trans H.keep.os,r4.tape.trans H.keep.tape,r4.output.trans H.keep.output,aF' H.keep.size r4.size,λk hk hno=>?_⟩;rw[←H.keep.block k hk hno];refine r4.block k (bm' hk H.keep.size) λho=>?_;obtain⟨b0,x0,hd0,k1,k2,k3,k4,k5⟩:=hown _ ho;obtain⟨hd',q5,_,q6⟩:=H.blk _ _ k2;rw[k3]at q5;cases q5
  rcases(q6 k4).2.2 with g|g
  ·exact hno (k5 ▸ g)
  ·omega
 ·intro b hb
  rcases r6 b hb with hq|hq|hq
  ·exact H.A1 b hq
  ·obtain⟨b0,x0,hd0,k1,k2,k3,k4,k5⟩:=hown _ hq;obtain⟨hd',q5,_,q6⟩:=H.blk _ _ k2;rw[k3]at q5;cases q5;rw[←k5];exact .inr (q6 k4).2.2
  ·exact .inr (.inr (aF' H.keep.size hq))
theorem aN.hand{P:Program}{n:Nat}{fid:FuncId}{args:List AV}{f:Nat}{hp:Hp}{r:AV}{h:List Blk}{h':List (Option Blk)}(hf:iK P fid)(hs:aF P fid args h r h')(bs:List Nat)
  (hl:bs.length=h.length) (hnd:bs.Nodup) (hargs:gW h.length args) (hblk:∀(i:Nat) (b:Nat) (x:Blk),bs[i]?=some b→h[i]?=some x→x.bel h.length∧hp b=some (x.ren (aI bs f)))
  (hk:h.length≤h'.length) (hk':h'.length≤h.length+16) (hr:r.bel h'.length) (hb':∀x,some x∈h'→x.bel h'.length) :
  aN P n fid (cG (aI bs f) args) f hp bs (r.ren (aI bs f)) (bI bs f h'):=by
 have key:=jr.hand (n:=n) (f:=f) (hp:=hp) hf hs.toE bs hl hnd hargs hblk (λr0 h0=>by rintro⟨rfl,rfl⟩;exact⟨hk,hk',hr,hb'⟩);refine⟨key.1,λc A μ fr tm' hp' a w cargs H h1 h2 h3=>(key.2 c A μ fr tm' hp' a w cargs H h1 h2 h3).mono λe' w'=>?_⟩;rintro⟨_,_,⟨_,_,⟨rfl,rfl⟩,rfl,rfl⟩,q⟩;exact q
end Go.Am
namespace Go.Am
def fw(ops:Array Oper):Option (Nat×Bool)→Option (Option (Nat×Bool))
 | none=>some none
 | some (j,want)=>match (ops[j]?).bind (·.dst)with
  | some d=>some (some (d,want))
  | none=>none
def FC(n:Nat):Option Nat→Bool
 | none=>true
 | some d=>decide (d<n)
def fg(P:Program)(n:Nat)(ops:Array Oper)(o:Oper):aA:=
  match fw ops o.guard with
  | some g=>if FC n o.dst then { dst:=o.dst,op:=cOp P o.op o.type,guard:=g } else { dst:=none,op:=.bad,guard:=none }
  | none=>{ dst:=none,op:=.bad,guard:=none }
structure S2 where
  tm:Nat→AV
  hp:Hp
def exT(P:Program)(n:Nat)(o:aA)(f:Nat)(s:S2)(K:S2→Prop):Prop:=
 match o.op with
 | .call g xs=>∃fid caps foot v e,evO s.tm g=.func fid caps∧(aN P n fid (xs.map (evO s.tm)++caps) f s.hp foot v e∨(tU P n fid (xs.map (evO s.tm)++caps) s.hp foot v∧e=cB))∧K ⟨aH o.dst v s.tm,bR e s.hp⟩
 | .lit k N z ps=>((evA (.lit k N z ps) f (evO s.tm) s.hp).c∧K ⟨aH o.dst (evA (.lit k N z ps) f (evO s.tm) s.hp).v s.tm,s.hp⟩)∨((evL k N z ps f (evO s.tm)).c∧K ⟨aH o.dst (evL k N z ps f (evO s.tm)).v s.tm,bH (evL k N z ps f (evO s.tm)) s.hp⟩)
 | .isNil ptr ne x=>kF ptr (evO s.tm x)∧∀t,pL s.hp (evO s.tm x) t→K ⟨aH o.dst (.bool (t != ne)) s.tm,s.hp⟩
 | .rng x=>∃(b:Nat) (kk:Option Nat) (ks:List MK) (vs:List AV) (st:List Nat) (ck:Nat),evO s.tm x=.mref b∧s.hp b=some (.mst kk ks vs st ck)∧K ⟨aH o.dst (.ref f 0) s.tm,upd s.hp f (some (.itr b st ck []))⟩
 | .ent x=>∃(r m ck i s0:Nat) (kk:Option Nat) (ks:List MK) (vs:List AV) (st seen:List Nat) (q:MK) (v:AV),evO s.tm x=.ref r 0∧s.hp r=some (.itr m st ck (seen++[s0]))∧s.hp m=some (.mst kk ks vs st ck)∧st[i]?=some s0∧ks[i]?=some q∧vs[i]?=some v∧kOk q∧K ⟨aH o.dst (.tup [kAV q,v]) s.tm,s.hp⟩
 | .nxt x=>∃(r m ck:Nat) (kk:Option Nat) (ks:List MK) (vs:List AV) (st seen:List Nat),evO s.tm x=.ref r 0∧s.hp r=some (.itr m st ck seen)∧s.hp m=some (.mst kk ks vs st ck)∧(∀q∈ks,kOk q)∧((∀s∈st,s∈seen)→K ⟨aH o.dst (.tup [.bool false]) s.tm,s.hp⟩) ∧
   ∀(i:Nat) (q:MK) (v:AV) (s0:Nat),ks[i]?=some q→vs[i]?=some v→st[i]?=some s0→s0 ∉ seen→K ⟨aH o.dst (.tup [.bool true,kAV q,v]) s.tm,upd (upd s.hp r none) r (some (.itr m st ck (seen++[s0])))⟩
 | op=>(evA op f (evO s.tm) s.hp).c∧K ⟨aH o.dst (evA op f (evO s.tm) s.hp).v s.tm,bH (evA op f (evO s.tm) s.hp) s.hp⟩
def gv:AV→Option (Option Bool)
 | .val (.bool t)=>some (some t)
 | .tup []=>some none
 | _=>none
def evT(P:Program)(n:Nat):List aA→Nat→S2→(S2→Nat→Prop)→Prop
 | [],f,s,K=>K s f
 | o::os,f,s,K=>match o.guard with
  | none=>exT P n o f s λs'=>evT P n os (f+16) s' K
  | some (d,want)=>∃t,gv (s.tm d)=some t∧(t=some want→exT P n o f s λs'=>evT P n os (f+16) s' K)∧(¬t=some want→evT P n os (f+16) ⟨aH o.dst (.tup []) s.tm,s.hp⟩ K)
theorem Fx{P:Program}{n:Nat}{o:Oper}{f:Nat}{s:S2}{K:S2→Prop}(hd:∀d,o.dst=some d→d<n){g:Option (Nat×Bool)}(h:exT P n { dst:=o.dst,op:=cOp P o.op o.type,guard:=g } f s K) :
    (∃rd v e,gq P n o f s.tm s.hp rd v e∧K ⟨aH o.dst v s.tm,bR e s.hp⟩) ∨
      (∃ptr ne x,cOp P o.op o.type=.isNil ptr ne x∧kF ptr (evO s.tm x)∧∀t,pL s.hp (evO s.tm x) t→K ⟨aH o.dst (.bool (t != ne)) s.tm,s.hp⟩) ∨
      ∃x,cOp P o.op o.type=.nxt x∧exT P n { dst:=o.dst,op:=.nxt x,guard:=g } f s K:=by
  have h00:=h;unfold exT at h;simp only at h
  split at h
  · rename_i gg xs hop
    obtain⟨fid,caps,foot,v,e,h1,h2,h3⟩:=h
    rcases h2 with h2|⟨h2,rfl⟩
    · exact .inl ⟨foot,v,e,rl hop hd h1 h2,h3⟩
    · exact .inl ⟨foot,v,cB,xt hop hd h1 h2,h3⟩
  · rename_i k N z ps hop
    rcases h with⟨h1,h2⟩|⟨h1,h2⟩
    · exact .inl ⟨_,_,_,xu hd (by rw[hop];exact h1),by rw[cV,hop];exact h2⟩
    · exact .inl ⟨_,_,_,Nk hop hd h1,by rw[cV];exact h2⟩
  · rename_i ptr ne x hop
    exact .inr (.inl ⟨ptr,ne,x,hop,h⟩)
  · rename_i x hop
    obtain⟨b,kk,ks,vs,st,ck,h1,h2,h3⟩:=h;exact .inl ⟨_,_,_,IJ hop hd h1 h2,by rw[cV];exact h3⟩
  · rename_i x hop
    obtain⟨r,m,ck,i,s0,kk,ks,vs,st,seen,q,v,h1,h2,h3,h4,h5,h6,h7,h8⟩:=h;exact .inl ⟨_,_,cB,IM hop hd h1 h2 h3 h4 h5 h6 h7,h8⟩
  · rename_i x hop
    exact .inr (.inr ⟨x,hop,by rw[hop]at h00;exact h00⟩)
  · rename_i op hop
    obtain⟨h1,h2⟩:=h;exact .inl ⟨_,_,_,xu hd h1,by rw[cV];exact h2⟩
theorem vQ{ops:Array Oper}{a:Act}{j d:Nat}{t want:Bool}(hj:(ops[j]?).bind (·.dst)=some d)(hv:a.tmps.getD d undef=.bool t):yielded ops a.tmps j=some t:=by
 have hlt:d<a.tmps.size:=by
  rcases bY' d a.tmps.size with h|h
  ·exact h
  ·simp[Array.getD,show ¬d<a.tmps.size by omega,undef]at hv
 unfold yielded;rw[hj];have:a.tmps[d]?=some (.bool t):=by
  rw[aO' hlt];have:a.tmps.getD d undef=a.tmps[d]:=by unfold Array.getD;rw[dif_pos hlt];rfl
  rw[←this,hv]
 simp[this]
theorem sN{ops:Array Oper}{a:Act}{j d:Nat}{t:Option Bool}{w:World}{A:Nat→Prop}{μ:Mu}{x:AV}(hj:(ops[j]?).bind (·.dst)=some d)(hv:RV w A x μ (a.tmps.getD d undef))(hg:gv x=some t):yielded ops a.tmps j=t:=by
 unfold gv at hg
 split at hg
 ·cases hg;exact vQ (want:=true) hj hv.1
 ·cases hg;obtain⟨vs,h1,h2⟩:=hv;simp only[RVL]at h2;subst h2;unfold yielded;rw[hj];simp only[Option.bind_some]
  rcases bY' d a.tmps.size with hlt|hge
  ·rw[aO' hlt];have:a.tmps.getD d undef=a.tmps[d]:=by unfold Array.getD;rw[dif_pos hlt];rfl
   rw[←this,h1]
  ·rw[Array.getElem?_eq_none hge]
 ·cases hg
def gb:aA:={ dst:=none,op:=.bad,guard:=none }
theorem jn(P:Program)(n:Nat)(ops:Array Oper)(o:Oper):fg P n ops o=gb ∨
    ∃g,fw ops o.guard=some g∧(∀d,o.dst=some d→d<n)∧fg P n ops o={ dst:=o.dst,op:=cOp P o.op o.type,guard:=g }:=by
  unfold fg;cases hg:fw ops o.guard with
  | none=>exact .inl rfl
  | some g =>
    by_cases hd:FC n o.dst=true
    · refine .inr ⟨g,rfl,?_,by simp only[hd,↓reduceIte]⟩
      intro d h;rw[h]at hd;simpa[FC]using hd
    · left;simp only[hd];rfl
theorem jS{P:Program}{n:Nat}{ops:Array Oper}{Q:Exit→Act→World→Prop}{c:Ctx}(K:S2→Nat→Prop)(rest:List Oper)
    (hK:∀s f a w A μ,K s f→ay P c A μ (λb=>f≤b) s.tm s.hp n a w→wpList P ops Q rest a w) :
    ∀(l:List Oper) (f:Nat) (s:S2) (a:Act) (w:World) (A:Nat→Prop) (μ:Mu),evT P n (l.map (fg P n ops)) f s K→ay P c A μ (λb=>f≤b) s.tm s.hp n a w→wpList P ops Q (l++rest) a w
  | [],f,s,a,w,A,μ,h,H=>hK s f a w A μ h H
  | o::l,f,s,a,w,A,μ,h,H=>by
    have next:∀(tm':Nat→AV) (hp':Hp) a' w' A' μ',evT P n (l.map (fg P n ops)) (f+16) ⟨tm',hp'⟩ K→ay P c A' μ' (λb=>f≤b∧¬(f≤b∧b<f+16)) tm' hp' n a' w'→wpList P ops Q (l++rest) a' w':=by
      intro tm' hp' a' w' A' μ' h1 h2;exact jS K rest hK l (f+16) ⟨tm',hp'⟩ a' w' A' μ' h1 (h2.free λb hb=>⟨by omega,λh=>by omega⟩)
    have run:∀g,(∀d,o.dst=some d→d<n)→exT P n { dst:=o.dst,op:=cOp P o.op o.type,guard:=g } f s (λs'=>evT P n (l.map (fg P n ops)) (f+16) s' K)→o.wp P a w (wpList P ops Q (l++rest)) Q:=by
      intro g hd hx
      rcases Fx hd hx with⟨rd,v,e,h1,h2⟩|⟨ptr,ne,x,h1,h2,h3⟩|⟨x,h1,r,m,ck,kk,ks,vs,st,seen,g1,g2,g3,g4,g5,g6⟩
      · exact h1 c A μ (λb=>f≤b) s.tm s.hp a w (wpList P ops Q (l++rest)) Q H (λ_ _=>rfl) (λ_ _=>rfl) (λj _=>by omega) (λa' w' A' μ' hr=>next _ _ a' w' A' μ' h2 hr)
      · exact IL h1 hd h2 H (λt ht a' hr=>next _ _ a' w A μ (h3 t ht) (hr.free λb hb=>hb.1))
      · exact IK h1 hd g1 g2 g3 g4 H (λhs a' hr=>next _ _ a' w A μ (g5 hs) (hr.free λb hb=>hb.1)) (λi q v s0 e1 e2 e3 e4 a' w' hr=>next _ _ a' w' A μ (g6 i q v s0 e1 e2 e3 e4) (hr.free λb hb=>hb.1))
    rw[aE']at h
    rcases jn P n ops o with hb|⟨g,hg,hd,hb⟩
    · rw[hb]at h
      simp only[evT,gb,exT,evA,Out.bad]at h;exact h.1.elim
    rw[hb]at h;simp only[evT]at h;show wpList P ops Q (o::(l++rest)) a w;unfold wpList;cases hgd:o.guard with
    | none =>
      rw[hgd]at hg;simp[fw]at hg;subst hg;rw[F' (by simp[Region.wanted,hgd])];exact .inl (run none hd h)
    | some jw =>
      obtain⟨j,want⟩:=jw;rw[hgd]at hg;simp only[fw]at hg;split at hg
      case h_2=>cases hg
      rename_i d hj;cases hg;obtain⟨t,h1,h2,h3⟩:=h;have hy:=sN hj (H.tm d) h1
      by_cases ht:t=some want
      · rw[F' (by simp[Region.wanted,hgd,hy,ht])]
        exact .inl (run _ hd (h2 ht))
      · rw[E' (by simp[Region.wanted,hgd,hy,ht])]
        exact next _ _ _ _ A μ (h3 ht) ((H.put (v:=.tup []) (cv:=undef) o.dst hd ⟨[],rfl,rfl⟩).free λb hb=>hb.1)
theorem oW{P:Program}{n:Nat}{ops:Array Oper}{Q:Exit→Act→World→Prop}{c:Ctx}(K:S2→Nat→Prop)
  (hK:∀s f a w A μ,K s f→ay P c A μ (λb=>f≤b) s.tm s.hp n a w→Q .normal a w)
  (l:List Oper) (f:Nat) (s:S2) (a:Act) (w:World) (A:Nat→Prop) (μ:Mu) (h:evT P n (l.map (fg P n ops)) f s K) (H:ay P c A μ (λb=>f≤b) s.tm s.hp n a w):wpList P ops Q l a w:=by
 have:=jS (c:=c) K [] (λs f a w A μ h1 h2=>hK s f a w A μ h1 h2) l f s a w A μ h H
 rwa [bc']at this
def bi:AOp→Bool
 | .load _ _ _|.store _ _ _|.convBS _|.slice _ _ _ _ _|.iaddr _ _ _|.len _|.append _ _ _ _|.appendS _ _ _|.box _|.mks _ _ _ _ _|.call _ _|.cap _|.appendZ _ _ _ _ _|.copy _ _ _|.clear _ _ _|.isNil _ _ _|.lit _ _ _ _|.mkm _|.mset _ _ _ _|.mget _ _ _ _ _|.mlen _|.mdel _ _ _=>true
 | _=>false
theorem sZ{op:AOp}(h:bi op=false){f:Nat}{ρ:AO→AV}{hp hp':Hp}:evA op f ρ hp=evA op f ρ hp'∧(evA op f ρ hp).rm=none∧(evA op f ρ hp).ad=none:=by
 cases op<;>simp[bi]at h
 all_goals first
  | exact⟨rfl,rfl,rfl⟩
  | exact⟨rfl,(fJ _ _ _).1,(fJ _ _ _).2⟩
  | exact⟨rfl,(im _ _ _).1,(im _ _ _).2⟩
  | exact⟨rfl,(km _ _).1,(km _ _).2⟩
  | exact⟨rfl,(eN _ _).1,(eN _ _).2⟩
  | (refine⟨rfl,?_⟩;simp only[evA];(repeat' split)<;>exact⟨rfl,rfl⟩)
def rdH(op:AOp)(tm:Nat→AV):List Nat:=if bi op then Oz op tm else []
def wrH(o:Out):List Nat:=o.rm.toList++(o.ad.toList.map (·.1))
theorem BS{P:Program}{n:Nat}{o:Oper}{f:Nat}{tm:Nat→AV}{hp:Hp}(hd:∀d,o.dst=some d→d<n)(hc:(evA (cOp P o.op o.type) f (evO tm) hp).c) :
  gq P n o f tm hp (rdH (cOp P o.op o.type) tm) (evA (cOp P o.op o.type) f (evO tm) hp).v (fm (evA (cOp P o.op o.type) f (evO tm) hp)):=by
 unfold rdH
 split
 ·exact xu hd hc
 ·rename_i hh;have hh:bi (cOp P o.op o.type)=false:=by simpa using hh
  intro c A μ fr tm' hp' a w K Q H h1 h2 h3 hK;have e:=sZ hh (f:=f) (ρ:=evO tm) (hp:=hp) (hp':=hp');rw[e.1]at hc hK;refine xu hd hc c A μ fr tm' hp' a w K Q H h1 (λb hb=>rfl) h3 ?_;intro a' w' A' μ' hr;exact hK a' w' A' μ' hr
theorem qZ{o:Out}{b:Nat}(h:fm o b≠none):b∈wrH o:=by
 unfold fm at h;unfold wrH;cases ha:o.ad with
 | none =>
  rw[ha]at h;simp only at h
  split at h
  ·rename_i e;simp[e]
  ·exact absurd rfl h
 | some p =>
  obtain⟨f,x⟩:=p;rw[ha]at h;simp only at h
  split at h
  ·rename_i e;simp[e]
  ·split at h
   ·rename_i e;simp[e]
   ·exact absurd rfl h
abbrev Log:=List (List Nat×List Nat)
def exD(P:Program)(n:Nat)(o:aA)(f:Nat)(s:S2)(K:S2→List Nat×List Nat→Prop):Prop:=
 match o.op with
 | .lit k N z ps=>((evA (.lit k N z ps) f (evO s.tm) s.hp).c∧K ⟨aH o.dst (evA (.lit k N z ps) f (evO s.tm) s.hp).v s.tm,s.hp⟩ (rdH (.lit k N z ps) s.tm,[]))∨((evL k N z ps f (evO s.tm)).c∧K ⟨aH o.dst (evL k N z ps f (evO s.tm)).v s.tm,bH (evL k N z ps f (evO s.tm)) s.hp⟩ ([],[f]))
 | .call g xs=>∃fid caps foot v e wr,evO s.tm g=.func fid caps∧(aN P n fid (xs.map (evO s.tm)++caps) f s.hp foot v e∨(tU P n fid (xs.map (evO s.tm)++caps) s.hp foot v∧e=cB))∧(∀b,e b≠none→b∈wr)∧K ⟨aH o.dst v s.tm,bR e s.hp⟩ (foot,wr)
 | op=>(evA op f (evO s.tm) s.hp).c∧K ⟨aH o.dst (evA op f (evO s.tm) s.hp).v s.tm,bH (evA op f (evO s.tm) s.hp) s.hp⟩ (rdH op s.tm,wrH (evA op f (evO s.tm) s.hp))
def evD(P:Program)(n:Nat):List aA→Nat→S2→Log→(S2→Nat→Log→Prop)→Prop
 | [],f,s,lg,K=>K s f lg
 | o::os,f,s,lg,K=>match o.guard with
  | none=>exD P n o f s λs' l=>evD P n os (f+16) s' (lg++[l]) K
  | some (d,want)=>∃t,gv (s.tm d)=some t∧(t=some want→exD P n o f s λs' l=>evD P n os (f+16) s' (lg++[l]) K)∧(¬t=some want→evD P n os (f+16) ⟨aH o.dst (.tup []) s.tm,s.hp⟩ (lg++[([],[])]) K)
def jg(xs ys:List Nat):Bool:=xs.all λx=>!ys.contains x
def eG(par:List (Nat×Nat))(lg:Log):Bool:=par.all λp =>
 jg (lg.getD p.1 ([],[])).2 ((lg.getD p.2 ([],[])).1++(lg.getD p.2 ([],[])).2) && jg (lg.getD p.2 ([],[])).2 (lg.getD p.1 ([],[])).1
def dK{β:Type}(f0:Nat→β)(g:Nat→Nat→Option β)(D:Nat→Bool):Nat→Nat→β
 | 0,x=>f0 x
 | k+1,x=>if D k then(g k x).getD (dK f0 g D k x)else dK f0 g D k x
theorem j5{β:Type}{f0:Nat→β}{g:Nat→Nat→Option β}{D D':Nat→Bool}{x:Nat}:∀{k:Nat},(∀j,j<k→g j x≠none→D j=D' j)→dK f0 g D k x=dK f0 g D' k x
 | 0,_=>rfl
 | k+1,h=>by
  have ih:=j5 (f0:=f0) (g:=g) (D:=D) (D':=D') (x:=x) (k:=k) λj hj=>h j (by omega);simp only[dK,ih];cases hg:g k x with
  | none=>simp
  | some v=>rw[h k (by omega) (by rw[hg];simp)]
theorem fK{β:Type}{f0:Nat→β}{g:Nat→Nat→Option β}{D:Nat→Bool}{x i:Nat}:∀{k:Nat},i≤k→(∀j,i≤j→j<k→g j x≠none→D j=false)→dK f0 g D k x=dK f0 g D i x
  | 0, h, _ => by have : i = 0 := by omega
                  subst this;rfl
  | k+1,h,hD=>by
    by_cases hi:i=k+1
    · subst hi;rfl
    · rw[←fK (k:=k) (by omega) λj h1 h2=>hD j h1 (by omega)]
      simp only[dK];cases hg:g k x with
      | none=>simp
      | some v=>rw[hD k (by omega) (by omega) (by rw[hg];simp)];simp
structure Dat where
  go:Bool
  v:AV
  e:Eff
  rd:List Nat
  wr:List Nat
  deriving Inhabited
section
variable (dsts : Nat → Option Nat) (ds : Nat → Dat) (s0 : S2)
def gT(i t:Nat):Option AV:=if dsts i=some t then some (ds i).v else none
def gH(i b:Nat):Option (Option Blk):=(ds i).e b
def stP(D:Nat→Bool)(k:Nat):S2:=⟨dK s0.tm (gT dsts ds) D k,dK s0.hp (gH ds) D k⟩
end
theorem BT(dsts:Nat→Option Nat)(ds:Nat→Dat)(s0:S2)(D:Nat→Bool)(k:Nat)(h:D k=true) :
  stP dsts ds s0 D (k+1)=⟨aH (dsts k) (ds k).v (stP dsts ds s0 D k).tm,bR (ds k).e (stP dsts ds s0 D k).hp⟩:=by
 unfold stP
 congr 1
 ·funext x
  simp only[dK,h,↓reduceIte,gT];cases hd:dsts k with
  | none=>simp[aH]
  | some d =>
   by_cases e:d=x
   ·subst e;simp[aH,upd]
   ·have:¬x=d:=λh=>e h.symm;simp[aH,upd,e,this]
 ·funext x
  simp only[dK,h,↓reduceIte,gH,bR];cases (ds k).e x<;>rfl
end Go.Am
namespace Go.Am
def jY(o:Oper):List Nat:=(o.after.toList.filter (Region.binds .any)).map (·.on)
def tv(acc:List Nat)(es:List Nat):Nat:=es.foldl (λm e=>m ||| (1 <<< e) ||| acc.getD e 0) 0
def ep:List (List Nat)→List Nat→List Nat
 | [],acc=>acc
 | es::E,acc=>ep E (acc++[tv acc es])
def ju(o:aA):List Nat:=(o.op.opers.filterMap fun|.t t=>some t|.c _=>none)++(match o.guard with|some (d,_)=>[d]|none=>[])
def gz(x y:aA):Bool:=
 (match x.dst with|some d=>!(ju y).contains d && y.dst != some d|none=>true) && (match y.dst with|some d=>!(ju x).contains d|none=>true)
def ga(cl:List Nat)(j i:Nat):Bool:=(cl.getD i 0).testBit j
def rF(E:List (List Nat))(cl:List Nat)(xs:List aA):Bool:=
 (E.zipIdx.all λ(es,i)=>es.all λe=>decide (e<i)) &&
 (List.range xs.length).all λi=>(List.range i).all λj=>ga cl j i || gz (xs.getD j gb) (xs.getD i gb)
def rO(cl:List Nat)(xs:List aA):List (Nat×Nat):=
 (List.range xs.length).flatMap λi=>(List.range i).filterMap λj =>
  if !ga cl j i && bi (xs.getD j gb).op && bi (xs.getD i gb).op then some (j,i)else none
theorem jG(acc:List Nat)(j:Nat):∀(es:List Nat) (m:Nat),(es.foldl (λm e=>m ||| (1 <<< e) ||| acc.getD e 0) m).testBit j=true →
  m.testBit j=true∨∃e∈es,j=e∨(acc.getD e 0).testBit j=true
 | [],m,h=>.inl h
 | e::es,m,h=>by
  rcases jG acc j es _ h with h|⟨e',h1,h2⟩
  ·simp only[Nat.testBit_or,bi']at h
   rcases h with(h|h)|h
   ·exact .inl h
   ·refine .inr ⟨e,by simp,.inl ?_⟩;rw[Nat.one_shiftLeft,Nat.testBit_two_pow]at h;simpa using(G' h).symm
   ·exact .inr ⟨e,by simp,.inr h⟩
  ·exact .inr ⟨e',by simp[h1],h2⟩
theorem lW:∀(E:List (List Nat)) (acc:List Nat) (i:Nat),i<acc.length→(ep E acc).getD i 0=acc.getD i 0
 | [],acc,i,_=>rfl
 | es::E,acc,i,h=>by
  rw[ep,lW E _ i (by simp;omega)];simp[List.getD,bj' h]
theorem zF:∀(E:List (List Nat)) (acc:List Nat) (k:Nat) (es:List Nat),E[k]?=some es →
  (ep E acc).getD (acc.length+k) 0=tv ((ep E acc).take (acc.length+k)) es
 | [],acc,k,es,h=>by simp at h
 | es0::E,acc,0,es,h=>by
  simp at h;subst h;rw[ep,lW E _ _ (by simp)];have h1:(ep E (acc++[tv acc es0])).take (acc.length+0)=acc:=by
   have:∀(E:List (List Nat)) (b acc:List Nat),∃t,ep E (acc++b)=acc++t:=by
    intro E
    induction E with
    | nil=>intro b acc;exact⟨b,rfl⟩
    | cons e E ih=>intro b acc;rw[ep,bl'];exact ih _ _
   obtain⟨t,ht⟩:=this E [tv acc es0] acc;rw[ht];simp
  rw[h1];simp[List.getD]
 | es0::E,acc,k+1,es,h=>by
  rw[ep];have:=zF E (acc++[tv acc es0]) k es (by simpa using h);simp only[List.length_append,Y',al',az']at this;rw[show acc.length+(k+1)=acc.length+1+k by omega];exact this
theorem tk{E:List (List Nat)}{i j:Nat}{es:List Nat}(hE:E[i]?=some es)(h:ga (ep E []) j i=true):∃e∈es,j=e∨(e<i∧ga (ep E []) j e=true):=by
 have h1:=zF E [] i es hE;simp only[al',az']at h1;unfold ga at h;rw[h1]at h
 rcases jG _ j es 0 h with h|⟨e,he,h⟩
 ·simp at h
 ·rcases h with h|h
  ·exact⟨e,he,.inl h⟩
  ·refine⟨e,he,.inr ?_⟩
   by_cases hlt:e<i
   ·refine⟨hlt,?_⟩;unfold ga;have:((ep E []).take i).getD e 0=(ep E []).getD e 0:=by
     simp[List.getD,aw',hlt]
    rw[←this];exact h
   ·exfalso;have:((ep E []).take i).getD e 0=0:=by
     simp[List.getD,aw',hlt]
    rw[this]at h;simp at h
theorem oa{E:List (List Nat)}{D:Nat→Bool}(hD:∀i es,E[i]?=some es→D i=true→∀e∈es,D e=true):∀(i j:Nat),i<E.length→ga (ep E []) j i=true→D i=true→D j=true:=by
 intro i
 induction i using Nat.strongRecOn with
 | _ i ih =>
  intro j hi h hDi;have hE:E[i]?=some E[i]:=f' hi
  obtain⟨e,he,h|⟨hlt,h⟩⟩:=tk hE h
  ·subst h;exact hD i _ hE hDi _ he
  ·exact ih e hlt j (by omega) h (hD i _ hE hDi e he)
def qU(P:Program)(n:Nat)(ops:Array Oper)(f0:Nat)(ds:Nat→Dat)(s0:S2)(i:Nat):Prop:=
  ∃o,ops[i]?=some o∧(∀d,o.dst=some d→d<n)∧(∃g,fg P n ops o={ dst:=o.dst,op:=cOp P o.op o.type,guard:=g }∧fw ops o.guard=some g) ∧
    (match o.guard with
      | none=>(ds i).go=true
      | some (j,want)=>∃d t,(ops[j]?).bind (·.dst)=some d∧gv ((stP (λi=>(ops[i]?).bind (·.dst)) ds s0 (λ_=>true) i).tm d)=some t∧(ds i).go=decide (t=some want)) ∧
    ((ds i).go=true→gq P n o (f0+16 * i) (stP (λi=>(ops[i]?).bind (·.dst)) ds s0 (λ_=>true) i).tm (stP (λi=>(ops[i]?).bind (·.dst)) ds s0 (λ_=>true) i).hp (ds i).rd (ds i).v (ds i).e) ∧
    ((ds i).go=false→(ds i).v=.tup []∧(ds i).e=cB∧(ds i).rd=[])∧(∀b,(ds i).e b≠none→b∈(ds i).wr) ∧
    (bi (cOp P o.op o.type)=false→(ds i).rd=[]∧(ds i).e=cB)
theorem lj{dsts:Nat→Option Nat}{ds ds':Nat→Dat}{s0:S2}{D:Nat→Bool}:∀{k:Nat},(∀i,i<k→ds i=ds' i)→stP dsts ds s0 D k=stP dsts ds' s0 D k:=by
 intro k h;have h1:∀(k x:Nat),(∀i,i<k→ds i=ds' i)→dK s0.tm (gT dsts ds) D k x=dK s0.tm (gT dsts ds') D k x:=by
  intro k x
  induction k with
  | zero=>intro _;rfl
  | succ k ih=>intro h;simp only[dK,ih λi hi=>h i (by omega),gT,h k (by omega)]
 have h2:∀(k x:Nat),(∀i,i<k→ds i=ds' i)→dK s0.hp (gH ds) D k x=dK s0.hp (gH ds') D k x:=by
  intro k x
  induction k with
  | zero=>intro _;rfl
  | succ k ih=>intro h;simp only[dK,ih λi hi=>h i (by omega),gH,h k (by omega)]
 unfold stP;rw[show dK s0.tm (gT dsts ds) D k=dK s0.tm (gT dsts ds') D k from funext λx=>h1 k x h,show dK s0.hp (gH ds) D k=dK s0.hp (gH ds') D k from funext λx=>h2 k x h]
theorem qU.congr{P:Program}{n:Nat}{ops:Array Oper}{f0:Nat}{ds ds':Nat→Dat}{s0:S2}{i:Nat}(h:∀j,j≤i→ds j=ds' j)(hg:qU P n ops f0 ds s0 i):qU P n ops f0 ds' s0 i:=by
 unfold qU at *
 rw[←lj (ds:=ds) (ds':=ds') (k:=i) λj hj=>h j (by omega),←h i (X' _)];exact hg
def gI(ds:Nat→Dat)(k:Nat):Log:=(List.range k).map λi=>((ds i).rd,(ds i).wr)
theorem vz(ds:Nat→Dat)(k:Nat):gI ds (k+1)=gI ds k++[((ds k).rd,(ds k).wr)]:=by simp[gI,bT']
theorem si{ds ds':Nat→Dat}{k:Nat}(h:∀i,i<k→ds i=ds' i):gI ds k=gI ds' k:=by
 unfold gI;exact an' λi hi=>by rw[h i (as'.1 hi)]
theorem sV{P:Program}{n:Nat}{o:Oper}{f:Nat}{s:S2}{K:S2→List Nat×List Nat→Prop}(hd:∀d,o.dst=some d→d<n){g:Option (Nat×Bool)}(h:exD P n { dst:=o.dst,op:=cOp P o.op o.type,guard:=g } f s K) :
    ∃rd wr v e,gq P n o f s.tm s.hp rd v e∧(∀b,e b≠none→b∈wr)∧(bi (cOp P o.op o.type)=false→rd=[]∧e=cB)∧K ⟨aH o.dst v s.tm,bR e s.hp⟩ (rd,wr):=by
  unfold exD at h;simp only at h
  split at h
  · rename_i k N z ps hop
    rcases h with⟨h1,h2⟩|⟨h1,h2⟩
    · refine⟨rdH (.lit k N z ps) s.tm,[],_,_,by rw[←hop];exact BS hd (by rw[hop];exact h1),λb hb=>?_,λhh=>by rw[hop]at hh;simp[bi]at hh,by rw[cV,hop];exact h2⟩
      rw[hop]at hb;exact absurd rfl hb
    · refine⟨[],[f],_,_,Nk hop hd h1,λb hb=>?_,λhh=>by rw[hop]at hh;simp[bi]at hh,by rw[cV];exact h2⟩
      have:=qZ hb;simpa[wrH,evL]using this
  · rename_i gg xs hop
    obtain⟨fid,caps,foot,v,e,wr,h1,h2,h3,h4⟩:=h
    rcases h2 with h2|⟨h2,rfl⟩
    · exact⟨foot,wr,v,e,rl hop hd h1 h2,h3,λhh=>by rw[hop]at hh;simp[bi]at hh,h4⟩
    · exact⟨foot,wr,v,cB,xt hop hd h1 h2,h3,λhh=>by rw[hop]at hh;simp[bi]at hh,h4⟩
  · rename_i op hop
    obtain⟨h1,h2⟩:=h;refine⟨_,_,_,_,BS hd h1,λb hb=>qZ hb,λhh=>?_,by rw[cV];exact h2⟩;have:=sZ hh (f:=f) (ρ:=evO s.tm) (hp:=s.hp) (hp':=s.hp);refine⟨by unfold rdH;simp[hh],?_⟩
    funext b
    simp[fm,this.2.1,this.2.2,cB]
theorem sX{P:Program}{n:Nat}{ops:Array Oper}{f0:Nat}{s0:S2}{K:S2→Nat→Log→Prop} :
  ∀(l:List Oper) (k:Nat) (ds:Nat→Dat),k≤ops.size→ops.toList.drop k=l→(∀i,i<k→qU P n ops f0 ds s0 i) →
   evD P n (l.map (fg P n ops)) (f0+16 * k) (stP (λi=>(ops[i]?).bind (·.dst)) ds s0 (λ_=>true) k) (gI ds k) K →
   ∃ds',(∀i,i<ops.size→qU P n ops f0 ds' s0 i)∧K (stP (λi=>(ops[i]?).bind (·.dst)) ds' s0 (λ_=>true) ops.size) (f0+16 * ops.size) (gI ds' ops.size)
 | [],k,ds,hle,hl,hg,h=>by
  have hk:k=ops.size:=by
   have:=congrArg List.length hl;simp at this;omega
  subst hk;exact⟨ds,hg,h⟩
 | o::l,k,ds,hle,hl,hg,h=>by
  have hlt:k<ops.size:=by
   have:=congrArg List.length hl;simp at this;omega
  have ho:ops[k]?=some o:=by
   have:(ops.toList.drop k)[0]?=some o:=by rw[hl];rfl
   rw[aA']at this;simpa using this
  have hl':ops.toList.drop (k+1)=l:=by rw[←List.drop_drop,hl];rfl
  -- one more datum
  have next:∀d:Dat,qU P n ops f0 (upd ds k d) s0 k→evD P n (l.map (fg P n ops)) (f0+16 * k+16) ⟨aH o.dst d.v (stP (λi=>(ops[i]?).bind (·.dst)) ds s0 (λ_=>true) k).tm,bR d.e (stP (λi=>(ops[i]?).bind (·.dst)) ds s0 (λ_=>true) k).hp⟩ (gI ds k++[(d.rd,d.wr)]) K →
    ∃ds',(∀i,i<ops.size→qU P n ops f0 ds' s0 i)∧K (stP (λi=>(ops[i]?).bind (·.dst)) ds' s0 (λ_=>true) ops.size) (f0+16 * ops.size) (gI ds' ops.size):=by
   intro d h1 h2;have hpre:∀i,i<k→ds i=upd ds k d i:=λi hi=>by rw[ai _ _ (by omega)]
   refine sX l (k+1) (upd ds k d) (by omega) hl' (λi hi=>?_) ?_
   ·by_cases hik:i=k
    ·subst hik;exact h1
    ·exact(hg i (by omega)).congr λj hj=>hpre j (by omega)
   ·rw[BT _ _ _ _ _ rfl,vz,←lj hpre,←si hpre];simp only[ak,ho,Option.bind_some];rw[show f0+16 * (k+1)=f0+16 * k+16 by omega];exact h2
  have hst:∀d:Dat,stP (λi=>(ops[i]?).bind (·.dst)) (upd ds k d) s0 (λ_=>true) k=stP (λi=>(ops[i]?).bind (·.dst)) ds s0 (λ_=>true) k:=
   λd=>lj λi hi=>ai _ _ (by omega)
  rw[aE']at h
  rcases jn P n ops o with hb|⟨g,hgd,hd,hb⟩
  ·rw[hb]at h;simp only[evD,gb,exD,evA,Out.bad]at h;exact h.1.elim
  rw[hb]at h;simp only[evD]at h;cases hgo:o.guard with
  | none =>
   have hg0:g=none:=by rw[hgo]at hgd;simpa[fw]using hgd.symm
   subst hg0;simp only at h;obtain⟨rd,wr,v,e,e1,e2,e3,e4⟩:=sV hd h
   refine next ⟨true,v,e,rd,wr⟩ ⟨o,ho,hd,⟨_,hb,hgd⟩,?_,?_,?_,?_,?_⟩ e4
   ·simp[hgo,ak]
   ·intro _;rw[hst,ak];exact e1
   ·intro hf;rw[ak]at hf;cases hf
   ·rw[ak];exact e2
   ·rw[ak];exact e3
  | some jw =>
   obtain⟨j,want⟩:=jw;rw[hgo]at hgd;simp only[fw]at hgd;split at hgd
   case h_2=>cases hgd
   rename_i d hj;cases hgd;obtain⟨t,h1,h2,h3⟩:=h
   by_cases ht:t=some want
   ·obtain⟨rd,wr,v,e,e1,e2,e3,e4⟩:=sV hd (h2 ht)
    refine next ⟨true,v,e,rd,wr⟩ ⟨o,ho,hd,⟨_,hb,?_⟩,?_,?_,?_,?_,?_⟩ e4
    ·rw[hgo];simp only[fw,hj]
    ·rw[hgo];exact⟨d,t,hj,by rw[hst];exact h1,by rw[ak];simp[ht]⟩
    ·intro _;rw[hst,ak];exact e1
    ·intro hf;rw[ak]at hf;cases hf
    ·rw[ak];exact e2
    ·rw[ak];exact e3
   ·refine next ⟨false,.tup [],cB,[],[]⟩ ⟨o,ho,hd,⟨_,hb,?_⟩,?_,?_,?_,?_,?_⟩ ?_
    ·rw[hgo];simp only[fw,hj]
    ·rw[hgo];exact⟨d,t,hj,by rw[hst];exact h1,by rw[ak];simp[ht]⟩
    ·intro hf;rw[ak]at hf;cases hf
    ·intro _;rw[ak];exact⟨rfl,rfl,rfl⟩
    ·rw[ak];intro b hb;exact absurd rfl hb
    ·intro _;rw[ak];exact⟨rfl,rfl⟩
    ·rw[kQ];exact h3 ht
end Go.Am
namespace Go.Am
section
variable {P : Program} {n : Nat} {ops : Array Oper} {f0 : Nat} {ds : Nat → Dat} {s0 : S2}
def dJ(P:Program)(n:Nat)(ops:Array Oper):List aA:=ops.toList.map (fg P n ops)
def bA(ops:Array Oper):List (List Nat):=ops.toList.map jY
def dD(ops:Array Oper)(i:Nat):Option Nat:=(ops[i]?).bind (·.dst)
structure ir (P:Program) (n:Nat) (ops:Array Oper) (f0:Nat) (ds:Nat→Dat) (s0:S2):Prop where
  good:∀i,i<ops.size→qU P n ops f0 ds s0 i
  reg:rF (bA ops) (ep (bA ops) []) (dJ P n ops)=true
  par:eG (rO (ep (bA ops) []) (dJ P n ops)) (gI ds ops.size)=true
theorem mG{i:Nat}{o:Oper}(h:ops[i]?=some o):(dJ P n ops).getD i gb=fg P n ops o:=by
 unfold dJ;have:ops.toList[i]?=some o:=by simpa using h
 simp[List.getD,this]
theorem jf{i:Nat}{o:Oper}(h:ops[i]?=some o):(bA ops)[i]?=some (jY o):=by
 unfold bA;have:ops.toList[i]?=some o:=by simpa using h
 simp[this]
theorem ir.lt(S:ir P n ops f0 ds s0){i:Nat}{es:List Nat}(h:(bA ops)[i]?=some es):∀e∈es,e<i:=by
 have:=S.reg;unfold rF at this;simp only[ae',ay']at this;have h1:=this.1 (es,i) (by
  rw[ac'];refine⟨i,?_⟩;rw[List.getElem?_zipIdx,h];simp)
 intro e he;simpa using h1 e he
theorem ir.slots(S:ir P n ops f0 ds s0){i j:Nat}{x y:Oper}(hi:ops[i]?=some y)(hj:ops[j]?=some x)(hlt:j<i) :
  ga (ep (bA ops) []) j i=true∨gz (fg P n ops x) (fg P n ops y)=true:=by
 have:=S.reg;unfold rF at this;simp only[ae',ay',as']at this;have hil:i<(dJ P n ops).length:=by
  have:i<ops.size:=(aT'.1 hi).1;simpa[dJ]using this
 have h1:=this.2 i hil j hlt;rw[mG hi,mG hj]at h1;simpa using h1
theorem oZ{xs ys:List Nat}(h:jg xs ys=true){b:Nat}(hx:b∈xs):b ∉ ys:=by
 unfold jg at h;have:=(ay'.1 h) b hx;simpa using this
theorem Eo{k i:Nat}(h:i<k):(gI ds k).getD i ([],[])=((ds i).rd,(ds i).wr):=by
 unfold gI;simp[List.getD,h]
theorem ir.heap(S:ir P n ops f0 ds s0){i j:Nat}(hi:i<ops.size)(hlt:j<i)(hnd:ga (ep (bA ops) []) j i=false)(b:Nat) :
  ((ds j).e b≠none→b ∉ (ds i).rd∧(ds i).e b=none)∧((ds i).e b≠none→b ∉ (ds j).rd):=by
 obtain⟨y,hy,hdy,⟨gy,cy,cgy⟩,_,_,_,wy,fy⟩:=S.good i hi;obtain⟨x,hx,hdx,⟨gx,cx,cgx⟩,_,_,_,wx,fx⟩:=S.good j (by omega)
 by_cases hyh:bi (cOp P y.op y.type)=true
 ·by_cases hxh:bi (cOp P x.op x.type)=true
  ·have hp:=S.par;unfold eG at hp;have hm:(j,i)∈rO (ep (bA ops) []) (dJ P n ops):=by
    unfold rO;refine bn'.2 ⟨i,as'.2 (by simpa[dJ]using hi),List.mem_filterMap.2 ⟨j,as'.2 hlt,?_⟩⟩;rw[mG hy,mG hx,cy,cx,hnd];simp[hyh,hxh]
   have:=(ay'.1 hp) _ hm;simp only[ae',Eo hi,Eo (show j<ops.size by omega)]at this;refine⟨λh=>?_,λh=>oZ this.2 (wy b h)⟩;have h1:=oZ this.1 (wx b h);simp only[ab',not_or]at h1;refine⟨h1.1,?_⟩;cases he:(ds i).e b with
   | none=>rfl
   | some z=>exact absurd (wy b (by rw[he];simp)) h1.2
  ·have:=fx (by simpa using hxh);exact⟨λh=>absurd (by rw[this.2];rfl) h,λ_=>by rw[this.1];simp⟩
 ·have:=fy (by simpa using hyh);exact⟨λ_=>⟨by rw[this.1];simp,by rw[this.2];rfl⟩,λh=>absurd (by rw[this.2];rfl) h⟩
def kj(ops:Array Oper)(D:Nat→Bool):Prop:=∀i es,(bA ops)[i]?=some es→D i=true→∀e∈es,D e=true
theorem ir.before(S:ir P n ops f0 ds s0){D:Nat→Bool}(hD:kj ops D){i j:Nat}{es:List Nat}(hi:(bA ops)[i]?=some es)(hr:∀e∈es,D e=true)(h:ga (ep (bA ops) []) j i=true):D j=true:=by
 obtain⟨e,he,h|⟨hlt,h⟩⟩:=tk hi h
 ·subst h;exact hr _ he
 ·refine oa hD e j ?_ h (hr e he);have:i<(bA ops).length:=(P'.1 hi).1;omega
theorem ir.after(S:ir P n ops f0 ds s0){D:Nat→Bool}(hD:kj ops D){i j:Nat}(hj:j<ops.size)(hi:D i=false)(h:ga (ep (bA ops) []) i j=true):D j=false:=by
 cases hdj:D j with
 | false=>rfl
 | true =>
  have:=oa hD j i (by simpa[bA]using hj) h hdj;rw[hi]at this;cases this
theorem ir.tm(S:ir P n ops f0 ds s0){D:Nat→Bool}(hD:kj ops D){i:Nat}{o:Oper}(ho:ops[i]?=some o)(hi:D i=false)(hr:∀e∈jY o,D e=true){t:Nat}(ht:t∈ju (fg P n ops o)) :
  (stP (dD ops) ds s0 D ops.size).tm t=(stP (dD ops) ds s0 (λ_=>true) i).tm t:=by
 have hlt:i<ops.size:=(aT'.1 ho).1;show dK s0.tm (gT (dD ops) ds) D ops.size t=dK s0.tm (gT (dD ops) ds) (λ_=>true) i t;have w:∀j,j<ops.size→j≠i→gT (dD ops) ds j t≠none→(j<i→D j=true)∧(i<j→D j=false):=by
  intro j hj hne hg;have hdj:dD ops j=some t:=by
   unfold gT at hg
   split at hg
   ·assumption
   ·exact absurd rfl hg
  have hoj:ops[j]?=some ops[j]:=aO' hj;have hd':ops[j].dst=some t:=by simpa[dD,hoj]using hdj
  obtain⟨x,hx,hdx,⟨gx,cx,cgx⟩,_⟩:=S.good j hj;rw[hoj]at hx;cases hx
  refine⟨λhji=>?_,λhij=>?_⟩
  ·rcases S.slots ho hoj hji with h|h
   ·exact S.before hD (jf ho) hr h
   ·exfalso;unfold gz at h;rw[cx]at h;simp only[hd',ae']at h;have:=h.1.1;simp at this;exact this ht
  ·rcases S.slots hoj ho hij with h|h
   ·exact S.after hD hj hi h
   ·exfalso;unfold gz at h;rw[cx]at h;simp only[hd',ae']at h;have:=h.2;simp at this;exact this ht
 rw[fK (i:=i) (by omega) (λj h1 h2 hg=>?_)]
 ·refine j5 λj hj hg=>?_;exact((w j (by omega) (by omega) hg).1 hj).trans rfl
 ·by_cases hji:j=i
  ·subst hji;exact hi
  ·exact(w j h2 hji hg).2 (by omega)
theorem ir.hp(S:ir P n ops f0 ds s0){D:Nat→Bool}(hD:kj ops D){i:Nat}{o:Oper}(ho:ops[i]?=some o)(hi:D i=false)(hr:∀e∈jY o,D e=true){b:Nat}(hb:b∈(ds i).rd) :
  (stP (dD ops) ds s0 D ops.size).hp b=(stP (dD ops) ds s0 (λ_=>true) i).hp b:=by
 have hlt:i<ops.size:=(aT'.1 ho).1;show dK s0.hp (gH ds) D ops.size b=dK s0.hp (gH ds) (λ_=>true) i b;have w:∀j,j<ops.size→j≠i→gH ds j b≠none→(j<i→D j=true)∧(i<j→D j=false):=by
  intro j hj hne hg
  refine⟨λhji=>?_,λhij=>?_⟩
  ·cases hdep:ga (ep (bA ops) []) j i with
   | true=>exact S.before hD (jf ho) hr hdep
   | false=>exact absurd hb ((S.heap hlt hji hdep b).1 hg).1
  ·cases hdep:ga (ep (bA ops) []) i j with
   | true=>exact S.after hD hj hi hdep
   | false=>exact absurd hb ((S.heap hj hij hdep b).2 hg)
 rw[fK (i:=i) (by omega) (λj h1 h2 hg=>?_)]
 ·refine j5 λj hj hg=>?_;exact((w j (by omega) (by omega) hg).1 hj).trans rfl
 ·by_cases hji:j=i
  ·subst hji;exact hi
  ·exact(w j h2 hji hg).2 (by omega)
theorem ir.add(S:ir P n ops f0 ds s0){D:Nat→Bool}(hD:kj ops D){i:Nat}{o:Oper}(ho:ops[i]?=some o)(hi:D i=false){D':Nat→Bool}(hD':∀j,D' j=(D j || j==i)) :
  (stP (dD ops) ds s0 D' ops.size).tm=aH o.dst (ds i).v (stP (dD ops) ds s0 D ops.size).tm∧(stP (dD ops) ds s0 D' ops.size).hp=bR (ds i).e (stP (dD ops) ds s0 D ops.size).hp:=by
 have hlt:i<ops.size:=(aT'.1 ho).1;have hdi:dD ops i=o.dst:=by simp[dD,ho]
 have hDi:D' i=true:=by rw[hD' i];simp
 have hne:∀j,j≠i→D' j=D j:=by
  intro j hj;rw[hD' j];have:(j==i)=false:=by simpa using hj
  simp[this]
 have gen:∀{β:Type} (f:Nat→β) (g:Nat→Nat→Option β) (x:Nat),(g i x≠none→∀j,j<ops.size→i<j→g j x≠none→D j=false) →
   dK f g D' ops.size x=(g i x).getD (dK f g D ops.size x):=by
  intro β f g x hw;cases hg:g i x with
  | none =>
   rw[Option.getD_none];refine j5 λj hj hgj=>?_
   by_cases h:j=i
   ·subst h;exact absurd hg hgj
   ·exact hne j h
  | some v =>
   rw[by',fK (i:=i+1) (by omega) (λj h1 h2 h3=>?_)]
   ·simp only[dK,hDi,↓reduceIte,hg,by']
   ·rw[hne j (by omega)];exact hw (by rw[hg];simp) j h2 (by omega) h3
 constructor
 ·funext t
  have h1:=gen s0.tm (gT (dD ops) ds) t (λh0 j hj hij hg=>by
   have hdi':o.dst=some t:=by
    unfold gT at h0
    split at h0
    ·rename_i h;rw[hdi]at h;exact h
    ·exact absurd rfl h0
   have hdj:dD ops j=some t:=by
    unfold gT at hg
    split at hg
    ·assumption
    ·exact absurd rfl hg
   have hoj:ops[j]?=some ops[j]:=aO' hj;have hd':ops[j].dst=some t:=by simpa[dD,hoj]using hdj
   obtain⟨x,hx,hdx,⟨gx,cx,cgx⟩,_⟩:=S.good j hj;rw[hoj]at hx;cases hx;obtain⟨y,hy,hdy,⟨gy,cy,cgy⟩,_⟩:=S.good i hlt;rw[ho]at hy;cases hy
   rcases S.slots hoj ho hij with h|h
   ·exact S.after hD hj hi h
   ·exfalso;unfold gz at h;rw[cx,cy]at h;simp only[hd',hdi',ae']at h;have:=h.1.2;simp at this)
  show dK s0.tm (gT (dD ops) ds) D' ops.size t=aH o.dst (ds i).v (λx=>dK s0.tm (gT (dD ops) ds) D ops.size x) t;rw[h1];unfold gT;rw[hdi];cases hd:o.dst with
  | none=>simp[aH]
  | some d =>
   by_cases e:d=t
   ·subst e;simp[aH,upd]
   ·have:¬t=d:=λh=>e h.symm;simp[aH,upd,e,this]
 ·funext b
  have h1:=gen s0.hp (gH ds) b (λh0 j hj hij hg=>by
   cases hdep:ga (ep (bA ops) []) i j with
   | true=>exact S.after hD hj hi hdep
   | false=>exact absurd ((S.heap hj hij hdep b).1 h0).2 hg)
  show dK s0.hp (gH ds) D' ops.size b=bR (ds i).e (λx=>dK s0.hp (gH ds) D ops.size x) b;rw[h1];unfold gH bR;cases (ds i).e b<;>rfl
end
end Go.Am
namespace Go.Am
theorem pd{p q:Nat→Bool}:∀(l:List Nat),(∀x∈l,p x=true→q x=true)→∀i∈l,q i=true→p i=false→l.countP p<l.countP q
 | [],_,i,hi,_,_=>by simp at hi
 | x::l,h,i,hi,hq,hp=>by
  have hle:∀(l:List Nat),(∀x∈l,p x=true→q x=true)→l.countP p≤l.countP q:=λl h=>List.countP_mono_left h;rw[List.countP_cons,List.countP_cons]
  by_cases hx:x=i
  ·subst hx;simp only[hp,hq];have:=hle l λy hy=>h y (by simp[hy]);simp;omega
  ·have hi':i∈l:=by simpa[Ne.symm hx]using hi
   have:=pd l (λy hy=>h y (by simp[hy])) i hi' hq hp;have hx2:=h x (by simp);cases hpx:p x with
   | false=>cases hqx:q x<;>simp<;>omega
   | true=>rw[hx2 hpx];simp;omega
def unl(N:Nat)(listed:Array Bool):Nat:=(List.range N).countP λi=>!listed.getD i true
section
variable {P : Program} {n : Nat} {ops : Array Oper} {f0 : Nat} {ds : Nat → Dat} {s0 : S2} {Q : Exit → Act → World → Prop} {c : Ctx}
def Dl(listed:Array Bool):Nat→Bool:=λi=>listed.getD i false
def frD(ops:Array Oper)(f0:Nat)(D:Nat→Bool)(b:Nat):Prop:=f0≤b∧∀k,k<ops.size→D k=true→¬(f0+16 * k≤b∧b<f0+16 * k+16)
theorem lp{listed:Array Bool}{i:Nat}:i∈Region.ready .any ops listed↔i<ops.size∧listed.getD i true=false∧∃o,ops[i]?=some o∧∀e∈jY o,Dl listed e=true:=by
 unfold Region.ready;simp only[ca',as',ae',bq']
 constructor
 ·rintro⟨h1,h2,h3⟩;refine⟨h1,h2,ops[i],aO' h1,?_⟩;rw[aO' h1]at h3;simp only[ai',by',Array.all_eq_true]at h3;intro e he;unfold jY at he;simp only[aa',ca']at he;obtain⟨x,⟨hx,hb⟩,rfl⟩:=he;obtain⟨k,hk,hkx⟩:=Array.mem_iff_getElem.1 (Array.mem_toList_iff.1 hx);have:=h3 k hk;rw[hkx,hb]at this;simpa[Dl]using this
 ·rintro⟨h1,h2,o,h3,h4⟩;refine⟨h1,h2,?_⟩;rw[h3];simp only[ai',by',Array.all_eq_true];intro k hk;cases hb:Region.binds .any o.after[k]with
  | false=>simp
  | true =>
   have:=h4 o.after[k].on (by
    unfold jY;simp only[aa',ca'];exact⟨_,⟨Array.mem_toList_iff.2 (Array.getElem_mem hk),hb⟩,rfl⟩)
   simpa[Dl]using this
theorem wL(S:ir P n ops f0 ds s0){listed:Array Bool}(hsz:listed.size=ops.size)(h:Region.ready .any ops listed=[]):∀i,i<ops.size→Dl listed i=true:=by
 intro i
 induction i using Nat.strongRecOn with
 | _ i ih =>
  intro hi;cases hd:Dl listed i with
  | true=>rfl
  | false =>
   exfalso;have:i∈Region.ready .any ops listed:=by
    refine lp.2 ⟨hi,?_,ops[i],aO' hi,λe he=>ih e ?_ ?_⟩
    ·unfold Dl at hd;have hlt:i<listed.size:=by omega
     have e1:listed.getD i true=listed[i]:=by unfold Array.getD;rw[dif_pos hlt];rfl
     have e2:listed.getD i false=listed[i]:=by unfold Array.getD;rw[dif_pos hlt];rfl
     rw[e1,←e2,hd]
    ·exact S.lt (jf (aO' hi)) e he
    ·have:=S.lt (jf (aO' hi)) e he;omega
   rw[h]at this;simp at this
theorem Br(S:ir P n ops f0 ds s0)(hQ:∀a w A μ,ay P c A μ (λb=>f0+16 * ops.size≤b) (stP (dD ops) ds s0 (λ_=>true) ops.size).tm (stP (dD ops) ds s0 (λ_=>true) ops.size).hp n a w→Q .normal a w) :
  ∀(fuel:Nat) (listed:Array Bool) (a:Act) (w:World) (A:Nat→Prop) (μ:Mu),listed.size=ops.size→kj ops (Dl listed)→unl ops.size listed≤fuel →
   ay P c A μ (frD ops f0 (Dl listed)) (stP (dD ops) ds s0 (Dl listed) ops.size).tm (stP (dD ops) ds s0 (Dl listed) ops.size).hp n a w→wpAny P .any ops Q fuel listed a w:=by
 have done:∀(listed:Array Bool) (a:Act) (w:World) (A:Nat→Prop) (μ:Mu),(∀i,i<ops.size→Dl listed i=true) →
   ay P c A μ (frD ops f0 (Dl listed)) (stP (dD ops) ds s0 (Dl listed) ops.size).tm (stP (dD ops) ds s0 (Dl listed) ops.size).hp n a w→Q .normal a w:=by
  intro listed a w A μ hall H;have e1:stP (dD ops) ds s0 (Dl listed) ops.size=stP (dD ops) ds s0 (λ_=>true) ops.size:=by
   unfold stP
   congr 1
   ·funext x;exact j5 λj hj _=>hall j hj
   ·funext x;exact j5 λj hj _=>hall j hj
  rw[e1]at H;exact hQ a w A μ (H.free λb hb=>⟨by omega,λk hk _ h=>by omega⟩)
 intro fuel
 induction fuel with
 | zero =>
  intro listed a w A μ hsz hcl hu H;have hall:∀i,i<ops.size→Dl listed i=true:=by
   intro i hi;have h0:unl ops.size listed=0:=by omega
   unfold unl at h0;rw[List.countP_eq_zero]at h0;have:=h0 i (as'.2 hi);have hlt:i<listed.size:=by omega
   have e1:listed.getD i true=listed[i]:=by unfold Array.getD;rw[dif_pos hlt];rfl
   have e2:listed.getD i false=listed[i]:=by unfold Array.getD;rw[dif_pos hlt];rfl
   unfold Dl;rw[e2,←e1];simpa using this
  refine⟨?_,done listed a w A μ hall H⟩;cases hr:Region.ready .any ops listed with
  | nil=>rfl
  | cons i l =>
   exfalso;obtain⟨h1,h2,_⟩:=lp.1 (show i∈Region.ready .any ops listed by rw[hr];simp);have:=hall i h1;have hlt:i<listed.size:=by omega
   have e1:listed.getD i true=listed[i]:=by unfold Array.getD;rw[dif_pos hlt];rfl
   have e2:listed.getD i false=listed[i]:=by unfold Array.getD;rw[dif_pos hlt];rfl
   unfold Dl at this;rw[e2,←e1,h2]at this;cases this
 | succ fuel ih =>
  intro listed a w A μ hsz hcl hu H;refine⟨λhr=>done listed a w A μ (wL S hsz hr) H,λi hi=>?_⟩;obtain⟨hlt,hun,o,ho,hr⟩:=lp.1 hi;have hll:i<listed.size:=by omega
  have hDi:Dl listed i=false:=by
   have e1:listed.getD i true=listed[i]:=by unfold Array.getD;rw[dif_pos hll];rfl
   have e2:listed.getD i false=listed[i]:=by unfold Array.getD;rw[dif_pos hll];rfl
   unfold Dl;rw[e2,←e1,hun]
  have hD':∀j,Dl (listed.setIfInBounds i true) j=(Dl listed j || j==i):=by
   intro j;unfold Dl
   by_cases hji:j=i
   ·subst hji;simp[Array.getD,hll]
   ·have h1:(j==i)=false:=by simpa using hji
    rw[h1,Bool.or_false];simp only[bA',bH' (Ne.symm hji)]
  have hcl':kj ops (Dl (listed.setIfInBounds i true)):=by
   intro k es hk hDk e he;rw[hD']at hDk ⊢
   by_cases hki:k=i
   ·subst hki;rw[jf ho]at hk;cases hk;rw[hr e he];rfl
   ·have h1:(k==i)=false:=by simpa using hki
    rw[h1,Bool.or_false]at hDk;rw[hcl k es hk hDk e he];rfl
  have hunl:unl ops.size (listed.setIfInBounds i true)≤fuel:=by
   have:unl ops.size (listed.setIfInBounds i true)<unl ops.size listed:=by
    unfold unl;refine pd _ (λx hx h=>?_) i (as'.2 hlt) (by simp[hun]) (by simp[Array.getD,hll])
    by_cases hxi:x=i
    ·subst hxi;simp[hun]
    ·simpa only[bA',bH' (Ne.symm hxi)]using h
   omega
  obtain⟨t1,t2⟩:=S.add hcl ho hDi hD';have hfr:∀b,frD ops f0 (Dl (listed.setIfInBounds i true)) b→frD ops f0 (Dl listed) b∧¬(f0+16 * i≤b∧b<f0+16 * i+16):=by
   rintro b ⟨h1,h2⟩;refine⟨⟨h1,λk hk hDk=>h2 k hk (by rw[hD',hDk];rfl)⟩,h2 i hlt (by rw[hD'];simp)⟩
  obtain⟨o',ho',hdn,⟨g,hco,hcg⟩,hgu,hgo,hng,hwr,_⟩:=S.good i hlt;rw[ho]at ho';cases ho';have hslots:∀t,t∈ju (fg P n ops o)→(stP (dD ops) ds s0 (Dl listed) ops.size).tm t=(stP (dD ops) ds s0 (λ_=>true) i).tm t:=λt ht=>S.tm hcl ho hDi hr ht;unfold wpOp;rw[ho];simp only;have hgo2:(Region.wanted o (yielded ops a.tmps))=(ds i).go:=by
   cases hgd:o.guard with
   | none=>rw[hgd]at hgu;simp[Region.wanted,hgd,hgu]
   | some jw =>
    obtain⟨j,want⟩:=jw;rw[hgd]at hgu;obtain⟨d,t,h1,h2,h3⟩:=hgu;rw[hgd]at hcg;simp only[fw,h1]at hcg;cases hcg;have hs:=hslots d (by rw[hco];simp[ju]);have h2':gv ((stP (dD ops) ds s0 (λ_=>true) i).tm d)=some t:=h2;rw[←hs]at h2';have:=sN h1 (H.tm d) h2';rw[h3];simp only[Region.wanted,hgd,this];by_cases htw:t=some want<;>simp[htw]
  rw[hgo2];cases hg:(ds i).go with
  | true =>
   simp only[↓reduceIte];left
   refine hgo hg c A μ (frD ops f0 (Dl listed)) (stP (dD ops) ds s0 (Dl listed) ops.size).tm (stP (dD ops) ds s0 (Dl listed) ops.size).hp a w _ Q H ?_ ?_ ?_ ?_
   ·intro t ht;refine hslots t ?_;rw[hco];unfold ju;exact ab'.2 (.inl (List.mem_filterMap.2 ⟨_,ht,rfl⟩))
   ·intro b hb;exact S.hp hcl ho hDi hr hb
   ·intro j hj;refine⟨by omega,λk hk hDk h=>?_⟩;have:k≠i:=by rintro rfl;rw[hDi]at hDk;cases hDk
    omega
   ·intro a' w' A' μ' hr';refine ih _ a' w' A' μ' (by simpa using hsz) hcl' hunl ?_;rw[t1,t2];exact hr'.free λb hb=>hfr b hb
  | false =>
   simp only[aS',↓reduceIte];obtain⟨q1,q2,q3⟩:=hng hg;refine ih _ _ w A μ (by simpa using hsz) hcl' hunl ?_;rw[t1,t2,q1,q2,kQ];exact(H.put (v:=.tup []) (cv:=undef) o.dst hdn ⟨[],rfl,rfl⟩).free λb hb=>(hfr b hb).1
end
end Go.Am
namespace Go.Am
def QE(P:Program)(n:Nat)(ops:Array Oper)(draw:Bool):AC:=
 if draw then
  (if P.follows .mixedOrders && rF (bA ops) (ep (bA ops) []) (dJ P n ops)then .dreg (dJ P n ops) (rO (ep (bA ops) []) (dJ P n ops))else .bad)
 else .reg (dJ P n ops)
def dU(P:Program)(n:Nat):Code→AC
 | .skip=>.skip
 | .region _ ops draw=>QE P n ops draw
 | .seq a b=>.seq (dU P n a) (dU P n b)
 | .cond c x y=>.cond (cO P c) (dU P n x) (dU P n y)
 | .block id c=>.block id (dU P n c)
 | .loop c=>.loop (dU P n c)
 | .exit id=>.exit id
 | .ret=>.ret
 | .scope c=>.scope (dU P n c)
 | .label _=>.label
 | _=>.bad
structure S3 where
  tm:Nat→AV
  hp:Hp
  nx:Nat
def Rel(P:Program)(k:Nat)(c:Ctx)(n:Nat)(s:S3)(a:Act)(w:World):Prop:=
 (∀b,k≤b→c.mu b=none)∧∃A μ,ay P c A μ (λb=>s.nx≤b) s.tm s.hp n a w
inductive X where
  | normal
  | exit (id:Nat)
  | ret
def post(P:Program)(k:Nat)(c:Ctx)(n:Nat)(Q:X→S3→Prop):Exit→Act→World→Prop
 | .normal,a,w=>∃s,Q .normal s∧Rel P k c n s a w
 | .exit id,a,w=>∃s,Q (.exit id) s∧Rel P k c n s a w
 | .ret,a,w=>∃s,Q .ret s∧Rel P k c n s a w
 | _,_,_=>False
def AWP(P:Program)(k n:Nat)(ac:AC)(Q:X→S3→Prop)(s:S3):Prop:=
 ∀code,dU P n code=ac→∀c a w,Rel P k c n s a w→code.wp P (post P k c n Q) a w
def oB(K:S3→Prop)(Q:X→S3→Prop):X→S3→Prop
 | .normal,s=>K s
 | e,s=>Q e s
def sE(id:Nat)(Q:X→S3→Prop):X→S3→Prop
 | .exit id',s=>if id'=id then Q .normal s else Q (.exit id') s
 | e,s=>Q e s
section
variable {P : Program} {k n : Nat} {Q : X → S3 → Prop} {s : S3}
theorem cT{ops:Array Oper}{draw:Bool}{ac:AC}(h:QE P n ops draw=ac):ac=.bad∨(draw=false∧ac=.reg (dJ P n ops)) ∨
  (draw=true∧P.follows .mixedOrders=true∧rF (bA ops) (ep (bA ops) []) (dJ P n ops)=true∧ac=.dreg (dJ P n ops) (rO (ep (bA ops) []) (dJ P n ops))):=by
 unfold QE at h;cases draw with
 | false=>simp at h;exact .inr (.inl ⟨rfl,h.symm⟩)
 | true =>
  simp only[↓reduceIte]at h
  split at h
  ·rename_i hh;simp only[ae']at hh;exact .inr (.inr ⟨rfl,hh.1,hh.2,h.symm⟩)
  ·exact .inl h.symm
theorem AWP.skip(h:Q .normal s):AWP P k n .skip Q s:=by
 intro code hc c a w H
 cases code<;>simp only[dU]at hc<;>try cases hc
 ·exact wp_skip ⟨s,h,H⟩
 ·rcases cT hc with h'|⟨_,h'⟩|⟨_,_,_,h'⟩<;>cases h'
theorem AWP.exit{id:Nat}(h:Q (.exit id) s):AWP P k n (.exit id) Q s:=by
 intro code hc c a w H
 cases code<;>simp only[dU]at hc<;>try cases hc
 ·rcases cT hc with h'|⟨_,h'⟩|⟨_,_,_,h'⟩<;>cases h'
 ·exact wp_exit ⟨s,h,H⟩
theorem AWP.ret(h:Q .ret s):AWP P k n .ret Q s:=by
 intro code hc c a w H
 cases code<;>simp only[dU]at hc<;>try cases hc
 ·rcases cT hc with h'|⟨_,h'⟩|⟨_,_,_,h'⟩<;>cases h'
 ·exact wp_ret ⟨s,h,H⟩
theorem AWP.seq{x y:AC}(h:AWP P k n x (oB (AWP P k n y Q) Q) s):AWP P k n (.seq x y) Q s:=by
 intro code hc c a w H
 cases code<;>simp only[dU]at hc<;>try cases hc
 ·rcases cT hc with h'|⟨_,h'⟩|⟨_,_,_,h'⟩<;>cases h'
 ·rename_i x' y';refine wp_seq (wp_mono (h x' rfl c a w H) ?_);intro e a' w' hq;cases e with
  | normal =>
   obtain⟨s',h1,h2⟩:=hq;exact h1 y' rfl c a' w' h2
  | exit id=>exact hq
  | ret=>exact hq
  | _=>exact hq.elim
theorem AWP.cond{cc:AO}{x y:AC}{b:Bool}(hb:evO s.tm cc=.val (.bool b))(hx:b=true→AWP P k n x Q s)(hy:b=false→AWP P k n y Q s):AWP P k n (.cond cc x y) Q s:=by
 intro code hc c a w H
 cases code<;>simp only[dU]at hc<;>try cases hc
 ·rcases cT hc with h'|⟨_,h'⟩|⟨_,_,_,h'⟩<;>cases h'
 ·rename_i c' x' y';obtain⟨h0,A,μ,hr⟩:=H;have hv:=hr.ev c';rw[hb]at hv;obtain⟨hv,_⟩:=hv;exact wp_cond_split hv (λe=>hx e x' rfl c a w ⟨h0,A,μ,hr⟩) (λe=>hy e y' rfl c a w ⟨h0,A,μ,hr⟩)
theorem AWP.block{id:Nat}{x:AC}(h:AWP P k n x (sE id Q) s):AWP P k n (.block id x) Q s:=by
 intro code hc c a w H
 cases code<;>simp only[dU]at hc<;>try cases hc
 ·rcases cT hc with h'|⟨_,h'⟩|⟨_,_,_,h'⟩<;>cases h'
 ·rename_i x';refine wp_block (wp_mono (h x' rfl c a w H) ?_);intro e a' w' hq;cases e with
  | normal=>exact hq
  | exit id' =>
   obtain⟨s',h1,h2⟩:=hq;simp only[sE]at h1;simp only[Exit.inBlock]
   split
   ·rename_i e;rw[F' e]at h1;exact⟨s',h1,h2⟩
   ·rename_i e;rw[E' e]at h1;exact⟨s',h1,h2⟩
  | ret=>exact hq
  | _=>exact hq.elim
theorem AWP.scope{x:AC}(h:AWP P k n x Q s):AWP P k n (.scope x) Q s:=by
 intro code hc c a w H
 cases code<;>simp only[dU]at hc<;>try cases hc
 ·rcases cT hc with h'|⟨_,h'⟩|⟨_,_,_,h'⟩<;>cases h'
 ·rename_i x';refine wp_scope_straight (wp_mono (h x' rfl c a w H) ?_);intro e a' w' hq;cases e with
  | goto l=>exact hq.elim
  | _=>exact hq
theorem AWP.label(h:Q .normal s):AWP P k n .label Q s:=by
 intro code hc c a w H
 cases code<;>simp only[dU]at hc<;>try cases hc
 ·rcases cT hc with h'|⟨_,h'⟩|⟨_,_,_,h'⟩<;>cases h'
 ·exact wp_label ⟨s,h,H⟩
theorem AWP.mono{x:AC}{Q':X→S3→Prop}(h:AWP P k n x Q s)(hq:∀e s,Q e s→Q' e s):AWP P k n x Q' s:=by
 intro code hc c a w H;refine wp_mono (h code hc c a w H) ?_;intro e a' w' h';cases e with
 | normal=>obtain⟨s',h1,h2⟩:=h';exact⟨s',hq _ _ h1,h2⟩
 | exit id'=>obtain⟨s',h1,h2⟩:=h';exact⟨s',hq _ _ h1,h2⟩
 | ret=>obtain⟨s',h1,h2⟩:=h';exact⟨s',hq _ _ h1,h2⟩
 | _=>exact h'.elim
def ao(k n:Nat)(s s':S3):Prop:=∀P c a w,Rel P k c n s a w→Rel P k c n s' a w
theorem ao.refl:ao k n s s:=λ_ _ _ _ h=>h
theorem ao.trans{s1 s2 s3:S3}(h:ao k n s1 s2)(h':ao k n s2 s3):ao k n s1 s3:=λP c a w H=>h' P c a w (h P c a w H)
theorem AWP.weak{x:AC}{s':S3}(hw:ao k n s s')(h:AWP P k n x Q s'):AWP P k n x Q s:=λcode hc c a w H=>h code hc c a w (hw P c a w H)
theorem By{c:Code}{Q:Exit→Act→World→Prop}(I:Nat→Act→World→Prop){m:Nat}{a:Act}{w:World}(h₀:I m a w)
  (round:∀m a w,I m a w→c.wp P (Exit.then (λa' w'=>∃m',m'<m∧I m' a' w') Q) a w):(Code.loop c).wp P Q a w:=by
 intro b k cs;have key:∀m a w,I m a w→∃e a' w',Q e a' w'∧Arrives P (lone (b.at a (.code c::.inLoop c::k)) cs w) b k cs e a' w':=by
  intro m
  induction m using Nat.strongRecOn with
  | _ m ih =>
   intro a w hI;obtain⟨e,a₁,w₁,hq,harr⟩:=round m a w hI b (.inLoop c::k) cs;cases e with
   | normal =>
    obtain⟨m',hlt,hI₁⟩:=hq;obtain⟨e₂,a₂,w₂,hq₂,harr₂⟩:=ih m' hlt a₁ w₁ hI₁;exact⟨e₂,a₂,w₂,hq₂,.of_steps (Steps.trans harr (.one step_inLoop)) harr₂⟩
   | exit id=>exact⟨_,a₁,w₁,hq,.pass (x:=.inLoop c) rfl (λ_ _=>.inl (by simp)) harr⟩
   | goto l=>exact⟨_,a₁,w₁,hq,.pass (x:=.inLoop c) rfl (λ_ _=>.inl (by simp)) harr⟩
   | ret=>exact⟨_,a₁,w₁,hq,.pass (x:=.inLoop c) rfl (λ_ _=>.inl (by simp)) harr⟩
   | panic ch=>exact⟨_,a₁,w₁,hq,.pass (x:=.inLoop c) rfl (λ_ _=>.inl (by simp)) harr⟩
   | outgrown=>exact⟨_,a₁,w₁,hq,.pass (x:=.inLoop c) rfl (λ_ _=>.inl (by simp)) harr⟩
 obtain⟨e,a',w',hq,harr⟩:=key _ a w h₀;exact⟨e,a',w',hq,.of_steps (.one step_loop) harr⟩
theorem AWP.loop{x:AC}(I:Nat→S3→Prop){m:Nat}(h0:∃s',ao k n s s'∧I m s')(round:∀m s,I m s→AWP P k n x (oB (λs'=>∃m' s'',m'<m∧ao k n s' s''∧I m' s'') Q) s):AWP P k n (.loop x) Q s:=by
 intro code hc c a w H
 cases code<;>simp only[dU]at hc<;>try cases hc
 ·rcases cT hc with h'|⟨_,h'⟩|⟨_,_,_,h'⟩<;>cases h'
 ·rename_i x';obtain⟨s',hw,hI⟩:=h0;refine By (λm a w=>∃s,I m s∧Rel P k c n s a w) (m:=m) ⟨s',hI,hw P c a w H⟩ ?_;rintro m a w ⟨s,hI,hr⟩;refine wp_mono (round m s hI x' rfl c a w hr) ?_;intro e a' w' hq;cases e with
  | normal =>
   obtain⟨s1,⟨m',s2,h1,h2,h3⟩,h4⟩:=hq;exact⟨m',h1,s2,h3,h2 P c a' w' h4⟩
  | exit id=>exact hq
  | ret=>exact hq
  | _=>exact hq.elim
theorem AWP.reg{ops:List aA}(h:evT P n ops s.nx ⟨s.tm,s.hp⟩ (λs' f=>Q .normal ⟨s'.tm,s'.hp,f⟩)):AWP P k n (.reg ops) Q s:=by
 intro code hc c a w H;cases code<;>simp only[dU]at hc<;>try cases hc
 rename_i id ops' draw
 rcases cT hc with h'|⟨hd,h'⟩|⟨_,_,_,h'⟩
 ·cases h'
 ·subst hd;cases h';obtain⟨h0,A,μ,hr⟩:=H;exact wp_region_list (oW (c:=c) _ (λs' f a w A μ hK hr=>⟨⟨s'.tm,s'.hp,f⟩,hK,h0,A,μ,hr⟩) ops'.toList s.nx ⟨s.tm,s.hp⟩ a w A μ h hr)
 ·cases h'
theorem AWP.dreg{ops:List aA}{par:List (Nat×Nat)}(h:evD P n ops s.nx ⟨s.tm,s.hp⟩ [] (λs' f lg=>eG par lg=true∧Q .normal ⟨s'.tm,s'.hp,f⟩)):AWP P k n (.dreg ops par) Q s:=by
  intro code hc c a w H;cases code<;>simp only[dU]at hc<;>try cases hc
  rename_i id ops' draw
  rcases cT hc with h'|⟨hd,h'⟩|⟨hd,hm,hreg,h'⟩
  · cases h'
  · cases h'
  · subst hd
    cases h';obtain⟨h0,A,μ,hr⟩:=H;obtain⟨ds,g1,g2,g3⟩:=sX (P:=P) (n:=n) (ops:=ops') (f0:=s.nx) (s0:=⟨s.tm,s.hp⟩) ops'.toList 0 (λ_=>default) (am' _) rfl (λi hi=>by omega) h;have S:ir P n ops' s.nx ds ⟨s.tm,s.hp⟩:=⟨g1,hreg,g2⟩
    refine wp_region_any hm ?_;have hDl:Dl (Array.replicate ops'.size false)=λ_=>false:=by
      funext i;unfold Dl;simp[Array.getD]
    have hst:stP (dD ops') ds ⟨s.tm,s.hp⟩ (λ_=>false) ops'.size=⟨s.tm,s.hp⟩:=by
      unfold stP
      congr 1
      · funext x;exact fK (i:=0) (am' _) (λ_ _ _ _=>rfl)
      · funext x;exact fK (i:=0) (am' _) (λ_ _ _ _=>rfl)
    refine Br (c:=c) S (λa w A μ hr=>⟨_,g3,h0,A,μ,hr⟩) ops'.size _ a _ A μ (by simp) ?_ ?_ ?_
    · rw[hDl];intro i es _ h;cases h
    · unfold unl;exact aF' (List.countP_le_length) (by simp)
    · rw[hDl,hst]
      obtain⟨r,_⟩:=hr.step (w':={ w with drawn:=w.drawn+1 }) rfl rfl rfl (X' _) s.hp (λ_ _ h=>h) (λ_ _ _=>rfl) (λ_=>False) (λ_ h=>h.elim);have hA:(λx=>A x∨False)=A:=by funext x;simp
      rw[hA]at r;exact r.free λb hb=>hb.1
end
end Go.Am
namespace Go.Am
section
variable {P : Program} {k n : Nat} {s s' : S3}
theorem ao.ren(π:Nat→Nat)(h1:∀t,s'.tm t=.unk∨(s.tm t=(s'.tm t).ren π∧(s'.tm t).bel s'.nx))(h2:∀b x,s'.hp b=some x→b<s'.nx∧s.hp (π b)=some (x.ren π)∧x.bel s'.nx)
  (h3:∀b b',s'.hp b≠none→s'.hp b'≠none→π b=π b'→b=b') (h4:∀b,b<k→π b=b) (h5:k≤s'.nx):ao k n s s':=by
 rintro P c a w ⟨h0,A,μ,H⟩;refine⟨h0,A,λb=>if b<s'.nx then μ (π b)else none,?_⟩;have hun:∀b,b<s'.nx→∀hd,μ (π b)=some hd→(if b<s'.nx then μ (π b)else none)=some hd:=λb hb hd e=>by rw[F' hb];exact e
 refine⟨λt=>?_,H.n,H.df,λb x hx=>?_,λb b' x x' hd hd' hx hx' hm hm' he he' heq=>?_,H.lt,λb hb=>?_,H.keep,H.A0,H.A1,λb hd hb=>?_⟩
 ·rcases h1 t with h|⟨e1,e2⟩
  ·rw[h];trivial
  ·have:=H.tm t;rw[e1]at this;exact RV.unren hun e2 this
 ·obtain⟨e1,e2,e3⟩:=h2 b x hx;obtain⟨hd,g1,g2,g3⟩:=H.blk _ _ e2;exact⟨hd,hun b e1 hd g1,g2.unren hun e3,g3⟩
 ·obtain⟨e1,e2,e3⟩:=h2 b x hx;obtain⟨f1,f2,f3⟩:=h2 b' x' hx';rw[F' e1]at hm;rw[F' f1]at hm';exact h3 b b' (by rw[hx];simp) (by rw[hx'];simp) (H.inj _ _ _ _ _ _ e2 f2 hm hm' he he' heq)
 ·refine⟨E' (by omega),?_⟩;cases hx:s'.hp b with
  | none=>rfl
  | some x=>have:=(h2 b x hx).1;omega
 ·have hbk:b<k:=by
   rcases bY' b k with h|h
   ·exact h
   ·rw[h0 b h]at hb;cases hb
  have:=H.mu b hd hb;show(if b<s'.nx then μ (π b)else none)=some hd;rw[F' (by omega),h4 b hbk];exact this
def aZ(b:Nat)(hp:Hp)(x y:AV):Prop:=
 ∀(P:Program) (c:Ctx) (A:Nat→Prop) (μ:Mu) (fr:Nat→Prop) (tm':Nat→AV) (n:Nat) (a:Act) (w:World) (cv:Value),ay P c A μ fr tm' hp n a w →
  RV w A x μ cv→RV w (λk=>A k∨∃hd,μ b=some hd∧hd.emp=none∧hd.blk=k) y μ cv
def cM(b:Nat)(hp:Hp):List AV→List AV→Prop
 | [],[]=>True
 | x::xs,y::ys=>aZ b hp x y∧cM b hp xs ys
 | _,_=>False
theorem cM.rvl{P:Program}{b:Nat}{hp:Hp}{c:Ctx}{A:Nat→Prop}{μ:Mu}{fr:Nat→Prop}{tm':Nat→AV}{n:Nat}{a:Act}{w:World}(H:ay P c A μ fr tm' hp n a w) :
  ∀{xs ys:List AV} {vs:List Value},cM b hp xs ys→RVL w A xs μ vs→RVL w (λk=>A k∨∃hd,μ b=some hd∧hd.emp=none∧hd.blk=k) ys μ vs
 | [],[],_,_,h=>h
 | x::xs,y::ys,_,hv,⟨v,vs',h1,h2,h3⟩=>⟨v,vs',h1,hv.1 P c A μ fr tm' n a w v H h2,cM.rvl H hv.2 h3⟩
 | [],_::_,_,hv,_=>hv.elim
 | _::_,[],_,hv,_=>hv.elim
theorem aZ.refl{b:Nat}{hp:Hp}{x:AV}:aZ b hp x x:=λP c A μ fr tm' n a w cv H hv=>hv.mono (cK.refl A w) (λk h=>.inl h) x (bu.refl _)
theorem cM.refl{b:Nat}{hp:Hp}:∀{xs:List AV},cM b hp xs xs
 | []=>trivial
 | _::_=>⟨aZ.refl,cM.refl⟩
theorem aZ.agg{b:Nat}{hp:Hp}{xs ys:List AV}(h:cM b hp xs ys):aZ b hp (.agg xs) (.agg ys):=by
 rintro P c A μ fr tm' n a w cv H ⟨vs,e1,e2,e3⟩;exact⟨vs,e1,h.rvl H e2,e3⟩
theorem aZ.tup{b:Nat}{hp:Hp}{xs ys:List AV}(h:cM b hp xs ys):aZ b hp (.tup xs) (.tup ys):=by
 rintro P c A μ fr tm' n a w cv H ⟨vs,e1,e2⟩;exact⟨vs,e1,h.rvl H e2⟩
theorem aZ.func{b:Nat}{hp:Hp}{g:FuncId}{xs ys:List AV}(h:cM b hp xs ys):aZ b hp (.func g xs) (.func g ys):=by
 rintro P c A μ fr tm' n a w cv H ⟨vs,e1,e2⟩;exact⟨vs,e1,h.rvl H e2⟩
theorem aZ.ref{b off:Nat}{hp:Hp}{x:AV}(h:hp b=some (.box x))(hx:x.pure):aZ b hp (.ref b off) (.rptr x off):=by
 intro P c A μ fr tm' n a w cv H hv;obtain⟨hd,e1,e2,rfl⟩:=hv;obtain⟨hd',v,ty,f1,f2,f3,f4,f5,f6⟩:=H.box h;rw[e1]at f1;cases f1;exact⟨hd.blk,0,v,by simp,.inr ⟨hd,e1,e2,rfl⟩,RV.pure hx (f4.mono (cK.refl A w) (λb hb=>.inl hb) x (bu.refl _)),(RV.cells f3 f4).2,λp u hu=>f6 p u hu⟩
theorem aZ.map{b:Nat}{kk:Option Nat}{hp:Hp}{ks:List MK}{vs:List AV}(h:hp b=some (.map kk ks vs))(hx:aD vs):aZ b hp (.mref b) (.mp kk ks vs):=by
 intro P c A μ fr tm' n a w cv H hv;obtain⟨hd,e1,e2,rfl⟩:=hv;obtain⟨hd',ents,clock,g1,g2,g3,g4,g5,g6⟩:=H.mapBlk h;rw[e1]at g1;cases g1;exact⟨_,ents,clock,rfl,.inr ⟨hd,e1,e2,rfl⟩,g3,g4,RVL.pure hx (RVL.mono (cK.refl A w) (λb hb=>.inl hb) vs (bu.refl _) g5),g6⟩
theorem aZ.vec{b kk:Nat}{hp:Hp}{es:List AV}(h:hp b=some (.vec kk es))(hx:aD es):aZ b hp (.vec b) (.sl kk es false):=by
 intro P c A μ fr tm' n a w cv H hv;obtain⟨hd,e1,rfl⟩:=hv;obtain⟨hd',f1,f2,f3⟩:=H.vec h;rw[e1]at f1;cases f1
 rcases f3 with⟨rfl,a',f3⟩|⟨g1,g2,g4,g5,C,ty,vs,k1,k2,k3,k4,k5,k6,k7⟩
 ·rw[Hd.val,f3];exact .inl ⟨rfl,a',rfl⟩
 ·have hv:hd.val=.slice (some ⟨hd.blk,0,none⟩) es.length hd.cap:=by rw[Hd.val,g1,g2]
  rw[hv];refine .inr ⟨hd.blk,0,hd.cap,vs,rfl,.inr ⟨hd,e1,g1,rfl⟩,by omega,g5,(λh=>by cases h),RVL.pure hx (RVL.mono (cK.refl A w) (λb hb=>.inl hb) es (bu.refl _) k2),λv hv=>⟨k4 v hv,?_⟩,λp u hu=>by rw[az'];exact k7 p u hu,k3⟩;obtain⟨i,hi⟩:=ac'.1 hv;have hlt:i<es.length:=by rw[k2.length];exact(P'.1 hi).1
  have hxe:es[i]?=some es[i]:=f' hlt;exact(RV.cells (k3 _ (aR' hlt)) (k2.get2 hxe hi)).2
theorem ao.give(b:Nat)(hnx:s'.nx=s.nx)(h1:∀t,s'.tm t=.unk∨aZ b s.hp (s.tm t) (s'.tm t))
  (h2:∀b' x,s'.hp b'=some x→b'≠b∧(s.hp b'=some x∨∃y z,s.hp b'=some (.box y)∧x=.box z∧z.solid=true∧aZ b s.hp y z)) (hb:s.hp b≠none):ao k n s s':=by
 rintro P c a w ⟨h0,A,μ,H⟩;have hle:∀k,A k→A k∨∃hd,μ b=some hd∧hd.emp=none∧hd.blk=k:=λ_ h=>.inl h;have hlive:∃x hd,s.hp b=some x∧μ b=some hd∧(hd.emp=none→¬A hd.blk∧hd.blk<w.heap.size∧(c.own hd.blk∨c.w.heap.size≤hd.blk)):=by
  cases hx:s.hp b with
  | none=>exact absurd hx hb
  | some x=>obtain⟨hd,e1,_,e3⟩:=H.blk b x hx;exact⟨x,hd,rfl,e1,e3⟩
 obtain⟨xb,hdb,hxb,hmb,hpb⟩:=hlive;have hsub:∀b' x,s'.hp b'=some x→b'≠b∧∃y,s.hp b'=some y:=by
  intro b' x hx
  obtain⟨e1,e2|⟨y,z,e2,_⟩⟩:=h2 b' x hx
  ·exact⟨e1,_,e2⟩
  ·exact⟨e1,_,e2⟩
 refine⟨h0,λk=>A k∨∃hd,μ b=some hd∧hd.emp=none∧hd.blk=k,μ,λt=>?_,H.n,H.df,λb' x hx=>?_,λb1 b2 x x' hd hd' hx hx'=>?_,?_,λb' hb'=>?_,H.keep,λb' hb'=>.inl (H.A0 b' hb'),?_,H.mu⟩
 ·rcases h1 t with h|h
  ·rw[h];trivial
  ·exact h P c A μ _ s.tm n a w _ H (H.tm t)
 ·obtain⟨hne,y,hy⟩:=hsub b' x hx;obtain⟨hd,g1,g2,g3⟩:=H.blk b' y hy
  refine⟨hd,g1,?_,λhe=>⟨?_,(g3 he).2⟩⟩
  ·rcases(h2 b' x hx).2 with e|⟨yy,z,e1,e2,e3,e4⟩
   ·rw[hy]at e;cases e;exact g2.mono (cK.refl A w) hle (bu.refl _) (λ_=>rfl)
   ·rw[hy]at e1;cases e1;subst e2;obtain⟨q1,q2,v,ty,q3,q4⟩:=g2;exact⟨q1,e3,v,ty,e4 P c A μ _ s.tm n a w v H q3,q4⟩
  ·rintro(h|⟨hd2,k1,k2,k3⟩)
   ·exact(g3 he).1 h
   ·exact hne (H.inj _ _ _ _ _ _ hy hxb g1 k1 he k2 k3.symm)
 ·obtain⟨_,y,hy⟩:=hsub b1 x hx;obtain⟨_,y',hy'⟩:=hsub b2 x' hx';exact H.inj _ _ _ _ _ _ hy hy'
 ·refine H.lt.mono (cK.refl A w) hle ?_
  rintro k (h|⟨hd,k1,k2,rfl⟩)
  ·exact H.lt k h
  ·rw[hmb]at k1;cases k1;exact(hpb k2).2.1
 ·rw[hnx]at hb';obtain⟨q1,q2⟩:=H.fr b' hb';refine⟨q1,?_⟩;cases hx:s'.hp b' with
  | none=>rfl
  | some x=>obtain⟨_,y,hy⟩:=hsub b' x hx;rw[q2]at hy;cases hy
 ·rintro k (h|⟨hd,k1,k2,rfl⟩)
  ·exact H.A1 k h
  ·rw[hmb]at k1;cases k1;exact .inr (hpb k2).2.2
end
def Bn(P:Program):ResultVar→Option AR
 | .tmp t=>some (.tmp t)
 | .cell t ty=>match P.underlying ty,sizeOf? P ty with
  | some _,some s=>some (.cell t (eI P ty) s)
  | _,_=>none
def eH(P:Program)(fn:Func):Option AF:=match fn.body with
  | none=>none
  | some c=>match fn.results.toList.mapM (Bn P)with
    | none=>none
    | some rs=>some { n:=fn.ntmps,np:=fn.params.size+fn.nfree,res:=rs,body:=dU P fn.ntmps c }
def uA(s:S3):AR→Option AV
 | .tmp t=>some (s.tm t)
 | .cell t agg size=>match s.tm t with
  | .ref b off=>match s.hp b with
   | some (.box y)=>if off+size≤y.cells.length∧(agg=false→size=1)∧y.solid=true then some (fP y off size agg)else none
   | _=>none
  | _=>none
def gC(s:S3):List AR→Option (List AV)
 | []=>some []
 | r::rs=>match uA s r,gC s rs with
  | some x,some xs=>some (x::xs)
  | _,_=>none
def kC:List AV→AV
 | [x]=>x
 | xs=>.tup xs
def vK(n:Nat)(args:List AV)(h:List Blk):S3:=⟨λt=>args.getD t .unk,bc (h.map some),h.length⟩
section
variable {P : Program} {c : Ctx} {A : Nat → Prop} {μ : Mu} {fr : Nat → Prop} {n : Nat} {a : Act} {w : World}
def C6(tmps:Array Value):ResultVar→Sem Value
 | .tmp t=>pure (tmps.getD t undef)
 | .cell b t=>do loadVar t (←asAddr (tmps.getD b undef))
theorem u9(fn:Func)(tmps:Array Value):results fn tmps=(do let vs ←fn.results.mapM (C6 tmps);pure (if h:vs.size=1 then vs[0]else .tuple vs)):=by
 unfold results
 congr 1
theorem C8{s:S3}(H:ay P c A μ fr s.tm s.hp n a w){r:ResultVar}{ar:AR}(hr:Bn P r=some ar){x:AV}(hx:uA s ar=some x) :
  ∃v,(C6 a.tmps r).run P w=.ok v w∧RV w A x μ v:=by
 cases r with
 | tmp t =>
  simp only[Bn,bp']at hr;subst hr;simp only[uA,bp']at hx;subst hx;exact⟨_,rfl,H.tm t⟩
 | cell b t =>
  simp only[Bn]at hr;split at hr
  case h_2=>cases hr
  rename_i d sz hu hs;cases hr;simp only[uA]at hx;split at hx
  case h_2=>cases hx
  rename_i bb off htm;split at hx
  case h_2=>cases hx
  rename_i y hy;split at hx
  case isFalse=>cases hx
  rename_i hok;cases hx;have hv:=H.tm b;rw[htm]at hv;obtain⟨hd,e1,e2,e3⟩:=hv;obtain⟨hd',v,ty,f1,f2,f3,f4,f5,f6⟩:=H.box hy;rw[e1]at f1;cases f1;obtain⟨cv,g1,g2⟩:=jy hu hs (off:=off) f4 ⟨hok.2.2,hok.1,hok.2.1⟩ f6;refine⟨cv,?_,g2⟩;simp only[C6,e3,asAddr,Sem.run_bind,Sem.run_pure,Result.andThen_ok];rw[az']at g1;exact g1
theorem rE{s:S3}(H:ay P c A μ fr s.tm s.hp n a w):∀{rs:List ResultVar} {ars:List AR} {xs:List AV},rs.mapM (Bn P)=some ars→gC s ars=some xs →
  ∃vs,(rs.mapM (C6 a.tmps)).run P w=.ok vs w∧RVL w A xs μ vs
 | [],ars,xs,h1,h2=>by
  simp at h1;subst h1;simp[gC]at h2;subst h2;exact⟨[],by simp,rfl⟩
 | r::rs,ars,xs,h1,h2=>by
  rw[List.mapM_cons]at h1;simp only[Option.pure_def,Option.bind_eq_bind,bO']at h1;obtain⟨ar,e1,ars',e2,e3⟩:=h1;cases e3;unfold gC at h2;split at h2
  case h_2=>cases h2
  rename_i x xs' g1 g2;cases h2;obtain⟨v,q1,q2⟩:=C8 H e1 g1;obtain⟨vs,q3,q4⟩:=rE H e2 g2;refine⟨v::vs,?_,v,vs,rfl,q2,q4⟩;rw[List.mapM_cons];simp only[Sem.run_bind];rw[q1];simp only[Result.andThen_ok];rw[q3];rfl
theorem lL{s:S3}{fn:Func}{ars:List AR}{xs:List AV}(H:ay P c A μ fr s.tm s.hp n a w)(h1:fn.results.toList.mapM (Bn P)=some ars)(h2:gC s ars=some xs) :
  ∃v,(results fn a.tmps).run P w=.ok v w∧RV w A (kC xs) μ v:=by
 obtain⟨vs,e1,e2⟩:=rE H h1 h2;have hl:=e2.length;have hm:(fn.results.mapM (C6 a.tmps)).run P w=.ok vs.toArray w:=by
  rw[Array.mapM_eq_mapM_toList];simp only[Sem.run_map];rw[e1];rfl
 rw[u9,Sem.run_bind,hm];simp only[Result.andThen_ok,Sem.run_pure];refine⟨_,rfl,?_⟩
 match vs,xs,e2,hl with
 | [],[],e2,_=>exact⟨[],by simp,rfl⟩
 | [v],[x],⟨v',vs',h0,h3,_⟩,_=>cases h0;simpa[kC]using h3
 | v::u::vs,x::y::xs,e2,_ =>
  refine⟨v::u::vs,?_,e2⟩;simp
end
def fin(k n:Nat)(res:List AR)(r:AV)(h':List (Option Blk)):X→S3→Prop
 | .exit _,_=>False
 | _,s=>∃s',ao k n s s'∧(∃xs,gC s' res=some xs∧kC xs=r)∧∀b x,bc h' b=some x→s'.hp b=some x
theorem eQ.intro{P:Program}{f:FuncId}{fn:Func}{af:AF}{args:List AV}{h:List Blk}{Qr:AV→List (Option Blk)→Prop}(hf:P.funcs[f]?=some fn)(hc:eH P fn=some af)(hn:args.length≤af.n)
    (hw:AWP P h.length af.n af.body (λe s=>∃r h',Qr r h'∧fin h.length af.n af.res r h' e s) (vK af.n args h)):eQ P f args h Qr:=by
  intro w A μ cargs hH hmu hargs;unfold eH at hc;split at hc
  case h_1=>cases hc
  rename_i body hb;split at hc
  case h_1=>cases hc
  rename_i rs hrs;cases hc;simp only at hw hn;have hl:=hargs.length
  let c:Ctx:=⟨w,cr μ (bc (h.map some)),A,μ⟩
  refine calls_of_wp hf hb ?_;have H0:Rel P h.length c fn.ntmps (vK fn.ntmps args h) { tmps:=cargs.toArray++Array.replicate (fn.ntmps-cargs.toArray.size) undef,defers:=[] } w:=by
    refine⟨hmu,A,μ,λt=>?_,?_,rfl,λb x hx=>?_,hH.inj,hH.lt,λb hb=>⟨hmu b hb,?_⟩,⟨rfl,rfl,rfl,X' _,λ_ _ _=>rfl⟩,λ_ h=>h,λ_ h=>.inl h,bu.refl _⟩
    · show RV w A (args.getD t .unk) μ _
      by_cases ht:t<args.length
      · have e1:args[t]?=some (args.getD t .unk):=by simp[List.getD,f' ht]
        obtain⟨v,e2,e3⟩:=hargs.get e1;have:(cargs.toArray++Array.replicate (fn.ntmps-cargs.toArray.size) undef).getD t undef=v:=by
          have hlt:t<cargs.length:=by omega
          have hv:cargs[t]=v:=by rw[f' hlt]at e2;exact Z' e2
          rw[bA',bD' (by simpa using hlt)];simp[hlt,hv]
        rw[this];exact e3
      · have:args.getD t .unk=.unk:=by simp[List.getD,af' (Nat.le_of_not_lt ht)]
        rw[this];trivial
    · simp;omega
    · obtain⟨hd,e1,e2,e3⟩:=hH.blk b x hx
      exact⟨hd,e1,e2,λhe=>⟨(e3 he).1,(e3 he).2,.inl ⟨b,x,hd,hx,e1,he,rfl⟩⟩⟩
    · show bc (h.map some) b=none
      have hb':h.length≤b:=hb;simp[bc,af',hb']
  refine wp_mono (hw _ rfl c _ w H0) ?_
  have fin:∀(s:S3) (a':Act) (w':World),(∃r h',Qr r h'∧∃s',ao h.length fn.ntmps s s'∧(∃xs,gC s' rs=some xs∧kC xs=r)∧∀b x,bc h' b=some x→s'.hp b=some x)→Rel P h.length c fn.ntmps s a' w' →
      a'.defers=[]∧∃v,(results fn a'.tmps).run P w'=.ok v w'∧(λe w'=>∃r h',Qr r h'∧ND P w A μ h r h' e w') (.returned v) w':=by
    rintro s a' w' ⟨r,h',hq,s',hwk,⟨xs,hxs,hpk⟩,hsub⟩ hr;obtain⟨h0,A',μ',H⟩:=hwk P c a' w' hr;obtain⟨v,e1,e2⟩:=lL H hrs hxs;rw[hpk]at e2
    refine⟨H.df,v,e1,r,h',hq,v,A',μ',rfl,e2,?_,H.mu,?_,H.A0,H.A1,?_⟩
    · refine⟨λb x hx=>?_,λb b' x x' hd hd' hx hx'=>H.inj b b' x x' hd hd' (hsub b x hx) (hsub b' x' hx'),H.lt⟩
      obtain⟨hd,g1,g2,g3⟩:=H.blk b x (hsub b x hx);exact⟨hd,g1,g2,λhe=>⟨(g3 he).1,(g3 he).2.1⟩⟩
    · exact⟨H.keep.os,H.keep.tape,H.keep.output,H.keep.size,H.keep.block⟩
    · rintro b ⟨b',x,hd,hx,hm,he,rfl⟩
      obtain⟨hd',g1,g2,g3⟩:=H.blk b' x (hsub b' x hx);rw[hm]at g1;cases g1;exact(g3 he).2.2
  intro e a' w' hq;cases e with
  | normal=>obtain⟨s,h1,h2⟩:=hq;exact fin s a' w' h1 h2
  | ret=>obtain⟨s,h1,h2⟩:=hq;exact fin s a' w' h1 h2
  | exit id=>obtain⟨s,⟨_,_,_,h1⟩,h2⟩:=hq;exact h1.elim
  | _=>exact hq.elim
theorem aF.intro{P:Program}{f:FuncId}{fn:Func}{af:AF}{args:List AV}{h:List Blk}{r:AV}{h':List (Option Blk)}(hf:P.funcs[f]?=some fn)(hc:eH P fn=some af)(hn:args.length≤af.n)
  (hw:AWP P h.length af.n af.body (fin h.length af.n af.res r h') (vK af.n args h)):aF P f args h r h':=
 eQ.toS (eQ.intro hf hc hn (AWP.mono hw λe s q=>⟨r,h',⟨rfl,rfl⟩,q⟩))
end Go.Am
namespace Go.Am
def ei:List AV→Nat→(Nat→AV)
 | [],_=>λ_=>.unk
 | x::xs,k=>upd (ei xs (k+1)) k x
def eC:List Blk→Nat→Hp
 | [],_=>λ_=>none
 | x::xs,k=>upd (eC xs (k+1)) k (some x)
theorem su:∀(xs:List AV) (k t:Nat),ei xs k t=if k≤t then xs.getD (t-k) .unk else .unk
 | [],k,t=>by simp[ei]
 | x::xs,k,t=>by
  rw[ei]
  by_cases h:t=k
  ·subst h;simp[upd]
  ·rw[ai _ _ h,su xs (k+1) t]
   by_cases h1:k≤t
   ·have:t-k=(t-(k+1))+1:=by omega
    rw[F' h1,F' (by omega),this];rfl
   ·rw[E' h1,E' (by omega)]
theorem sw:∀(xs:List Blk) (k t:Nat),eC xs k t=if k≤t then xs[t-k]? else none
 | [],k,t=>by simp[eC]
 | x::xs,k,t=>by
  rw[eC]
  by_cases h:t=k
  ·subst h;simp[upd]
  ·rw[ai _ _ h,sw xs (k+1) t]
   by_cases h1:k≤t
   ·have:t-k=(t-(k+1))+1:=by omega
    rw[F' h1,F' (by omega),this];rfl
   ·rw[E' h1,E' (by omega)]
theorem mr(n:Nat)(args:List AV)(h:List Blk):vK n args h=⟨ei args 0,eC h 0,h.length⟩:=by
 unfold vK
 congr 1
 ·funext t;rw[su];simp
 ·funext t;rw[sw];simp[bc];cases h[t]?<;>rfl
mutual
def AV.ok:AV→Prop
  | .val v=>az v
  | .agg cs=>okL cs
  | .tup xs=>okL xs
  | .func _ caps=>okL caps
  | .sl _ es _=>es.length≤maxLen∧okL es
  | .rptr x _=>x.ok
  | .mp kk ks vs=>ks.Nodup∧(∀q∈ks,q.fits kk)∧vs.length=ks.length∧okL vs
  | _=>True
def okL:List AV→Prop
  | []=>True
  | x::xs=>x.ok∧okL xs
end
section
variable {w : World} {A : Nat → Prop}
mutual
theorem RV.ok:∀{x:AV} {μ:Mu} {v:Value},RV w A x μ v→x.ok
  | .val _,_,_,h=>h.2
  | .agg cs,_,_,⟨vs,h1,h2,h3⟩=>RVL.ok h2
  | .tup xs,_,_,⟨vs,h1,h2⟩=>RVL.ok h2
  | .func f caps,_,_,⟨vs,h1,h2⟩=>RVL.ok h2
  | .ref _ _,_,_,_=>trivial
  | .eref _ _ _,_,_,_=>trivial
  | .rptr x _,_,_,⟨blk,o,v,h1,h2,h3,h4⟩=>(RV.ok h3:x.ok)
  | .vec _,_,_,_=>trivial
  | .vsub _ _ _,_,_,_=>trivial
  | .asub _ _ _ _,_,_,_=>trivial
  | .sl k es full,_,_,h=>by
      rcases h with⟨h1,_⟩|⟨blk,off,cap,vs,h1,h2,h3,h4,h5,h6,h7⟩
      · subst h1;exact⟨am' _,trivial⟩
      · exact⟨by omega,RVL.ok h6⟩
  | .mref _,_,_,_=>trivial
  | .mp kk ks vs,_,_,⟨blk,ents,clock,h1,h2,h3,h4,h5,h6⟩=>⟨h4.nodup,h4.2.1,by rw[h5.length,u',aH',h4.len],RVL.ok h5⟩
  | .unk,_,_,_=>trivial
theorem RVL.ok:∀{xs:List AV} {μ:Mu} {vs:List Value},RVL w A xs μ vs→okL xs
  | [],_,_,_=>trivial
  | x::xs,_,_,⟨v,vs',h1,h2,h3⟩=>⟨RV.ok h2,RVL.ok h3⟩
end
end
theorem yr:∀{xs:List AV},okL xs↔∀x∈xs,x.ok
 | []=>by simp[okL]
 | x::xs=>by simp[okL,yr (xs:=xs)]
theorem jx:∀{xs:List AV},aD xs↔∀x∈xs,x.pure
 | []=>by simp[aD]
 | x::xs=>by simp[aD,jx (xs:=xs)]
theorem bT.of_ok{P:Program}{f:FuncId}{args:List AV}{r:AV}(h:okL args→bT P f args r):bT P f args r:=
 λw A cargs h1 h2=>h (RVL.ok h2) w A cargs h1 h2
theorem aF.walk{P:Program}{f:FuncId}{fn:Func}{af:AF}{args:List AV}{h:List Blk}{r:AV}{h':List (Option Blk)}(hf:P.funcs[f]?=some fn)(hc:eH P fn=some af)(hn:args.length≤af.n)
  (hw:AWP P h.length af.n af.body (fin h.length af.n af.res r h') ⟨ei args 0,eC h 0,h.length⟩):aF P f args h r h':=
 aF.intro hf hc hn (by rw[mr];exact hw)
theorem eQ.walk{P:Program}{f:FuncId}{fn:Func}{af:AF}{args:List AV}{h:List Blk}{Qr:AV→List (Option Blk)→Prop}(hf:P.funcs[f]?=some fn)(hc:eH P fn=some af)(hn:args.length≤af.n)
  (hw:AWP P h.length af.n af.body (λe s=>∃r h',Qr r h'∧fin h.length af.n af.res r h' e s) ⟨ei args 0,eC h 0,h.length⟩):eQ P f args h Qr:=
 eQ.intro hf hc hn (by rw[mr];exact hw)
section
variable {P : Program} {k n : Nat} {Q : X → S3 → Prop} {tm : Nat → AV} {hp : Hp} {nx : Nat}
theorem AWP.seq'{x y:AC}(h:AWP P k n x (oB (AWP P k n y Q) Q) ⟨tm,hp,nx⟩):AWP P k n (.seq x y) Q ⟨tm,hp,nx⟩:=AWP.seq h
theorem AWP.reg'{ops:List aA}(h:∀K:(Nat→AV)→Hp→Nat→Prop,(∀t h x,Q .normal ⟨t,h,x⟩→K t h x)→evT P n ops nx ⟨tm,hp⟩ (λs f=>K s.tm s.hp f)):AWP P k n (.reg ops) Q ⟨tm,hp,nx⟩:=
 AWP.reg (h (λt h x=>Q .normal ⟨t,h,x⟩) (λ_ _ _ h=>h))
theorem AWP.dreg'{ops:List aA}{par:List (Nat×Nat)}(h:∀K:(Nat→AV)→Hp→Nat→Prop,(∀t h x,Q .normal ⟨t,h,x⟩→K t h x)→evD P n ops nx ⟨tm,hp⟩ [] (λs f lg=>eG par lg=true∧K s.tm s.hp f)):AWP P k n (.dreg ops par) Q ⟨tm,hp,nx⟩:=
 AWP.dreg (h (λt h x=>Q .normal ⟨t,h,x⟩) (λ_ _ _ h=>h))
end
theorem aj{α:Type}(f:Nat→α)(t:Nat)(v:α)(x:Nat):upd f t v x=if x=t then v else f x:=rfl
theorem evO_t(tm:Nat→AV)(t:Nat):evO tm (.t t)=tm t:=rfl
theorem evO_c(tm:Nat→AV)(x:AV):evO tm (.c x)=x:=rfl
theorem Av(d:Nat)(v:AV)(tm:Nat→AV):aH (some d) v tm=upd tm d v:=rfl
theorem Aw(v:AV)(tm:Nat→AV):aH none v tm=tm:=rfl
theorem mI{n:Int}(h:-9223372036854775808≤n∧n≤9223372036854775807):IntKind.i64.wrap n=n:=IntWalk.i64_in n h
theorem EH{n:Int}:inK .i64 n↔-9223372036854775808≤n∧n≤9223372036854775807:=by
 unfold inK;simp[IntKind.min,IntKind.max,IntKind.bits,IntKind.signed]
end Go.Am
namespace Go.Am
abbrev AOp.isCall:AOp→Bool
 | .call _ _=>true
 | .isNil _ _ _=>true
 | .lit _ _ _ _=>true
 | .rng _=>true
 | .nxt _=>true
 | .ent _=>true
 | _=>false
section
variable {P : Program} {k n : Nat} {tm : Nat → AV} {hp : Hp}
theorem NL{α:Type}(f:Nat→α)(t:Nat)(v:α)(x:Nat):upd f t v x=if x=t then v else f x:=id rfl
def goT(P:Program)(n:Nat)(o:Out)(d:Option Nat)(os:List aA)(f:Nat)(tm:Nat→AV)(hp:Hp)(K:S2→Nat→Prop):Prop:=
 o.c∧evT P n os (f+16) ⟨aH d o.v tm,bH o hp⟩ K
theorem KM{f:Nat}{K:S2→Nat→Prop}:evT P n [] f ⟨tm,hp⟩ K=K ⟨tm,hp⟩ f:=rfl
theorem PG{d:Option Nat}{op:AOp}{os:List aA}{f:Nat}{K:S2→Nat→Prop}(h:op.isCall=false) :
  evT P n (⟨d,op,none⟩::os) f ⟨tm,hp⟩ K=goT P n (evA op f (evO tm) hp) d os f tm hp K:=by
 cases op<;>first|rfl|simp[AOp.isCall]at h
theorem AQ{d:Option Nat}{ptr ne:Bool}{x:AO}{os:List aA}{f:Nat}{K:S2→Nat→Prop} :
  evT P n (⟨d,.isNil ptr ne x,none⟩::os) f ⟨tm,hp⟩ K=(kF ptr (evO tm x)∧∀t,pL hp (evO tm x) t→evT P n os (f+16) ⟨aH d (.bool (t != ne)) tm,hp⟩ K):=rfl
theorem P9{c:Prop}{v:AV}{d:Option Nat}{os:List aA}{f:Nat}{K:S2→Nat→Prop}{rm:Option Nat}{ad:Option (Nat×Blk)} :
    goT P n { c:=c,v:=v,rm:=rm,ad:=ad } d os f tm hp K=(c∧evT P n os (f+16) ⟨aH d v tm,bH { c:=True,rm:=rm,ad:=ad } hp⟩ K):=rfl
theorem PH{d:Option Nat}{op:AOp}{os:List aA}{f g:Nat}{want:Bool}{K:S2→Nat→Prop}(h:tm g=.val (.bool want)) :
  evT P n (⟨d,op,some (g,want)⟩::os) f ⟨tm,hp⟩ K=evT P n (⟨d,op,none⟩::os) f ⟨tm,hp⟩ K:=by
 apply propext
 constructor
 ·rintro⟨t,h0,h1,_⟩;rw[show(S2.mk tm hp).tm g=tm g from rfl,h]at h0;cases h0;exact h1 rfl
 ·exact λH=>⟨some want,by rw[show(S2.mk tm hp).tm g=tm g from rfl,h];rfl,λ_=>H,λe=>absurd rfl e⟩
theorem PI{d:Option Nat}{op:AOp}{os:List aA}{f g:Nat}{want:Bool}{K:S2→Nat→Prop}(h:tm g=.tup []) :
  evT P n (⟨d,op,some (g,want)⟩::os) f ⟨tm,hp⟩ K=evT P n os (f+16) ⟨aH d (.tup []) tm,hp⟩ K:=by
 apply propext
 constructor
 ·rintro⟨t,h0,_,h1⟩;rw[show(S2.mk tm hp).tm g=tm g from rfl,h]at h0;cases h0;exact h1 (by simp)
 ·exact λH=>⟨none,by rw[show(S2.mk tm hp).tm g=tm g from rfl,h];rfl,λe=>by simp at e,λ_=>H⟩
theorem PJ{d:Option Nat}{op:AOp}{os:List aA}{f g:Nat}{want:Bool}{K:S2→Nat→Prop}(h:tm g=.val (.bool (!want))) :
  evT P n (⟨d,op,some (g,want)⟩::os) f ⟨tm,hp⟩ K=evT P n os (f+16) ⟨aH d (.tup []) tm,hp⟩ K:=by
 apply propext
 constructor
 ·rintro⟨t,h0,_,h1⟩;rw[show(S2.mk tm hp).tm g=tm g from rfl,h]at h0;cases h0;exact h1 (by cases want<;>simp)
 ·exact λH=>⟨some (!want),by rw[show(S2.mk tm hp).tm g=tm g from rfl,h];rfl,λe=>by cases want<;>simp at e,λ_=>H⟩
theorem dz{d:Option Nat}{g:AO}{xs:List AO}{os:List aA}{f:Nat}{K:S2→Nat→Prop}{fid:FuncId}{caps args:List AV}{foot:List Nat}{v:AV}{e:Eff}
  (hg:evO tm g=.func fid caps) (hx:xs.map (evO tm)++caps=args) (hc:aN P n fid args f hp foot v e) (hK:evT P n os (f+16) ⟨aH d v tm,bR e hp⟩ K) :
  evT P n (⟨d,.call g xs,none⟩::os) f ⟨tm,hp⟩ K:=
 ⟨fid,caps,foot,v,e,hg,.inl (by rw[←hx]at hc;exact hc),hK⟩
theorem KP{d:Option Nat}{g:AO}{xs:List AO}{os:List aA}{f:Nat}{K:S2→Nat→Prop}{fid:FuncId}{caps args:List AV}{foot:List Nat}{v:AV}
  (hg:evO tm g=.func fid caps) (hx:xs.map (evO tm)++caps=args) (hc:tU P n fid args hp foot v) (hK:evT P n os (f+16) ⟨aH d v tm,hp⟩ K) :
  evT P n (⟨d,.call g xs,none⟩::os) f ⟨tm,hp⟩ K:=
 ⟨fid,caps,foot,v,cB,hg,.inr ⟨by rw[←hx]at hc;exact hc,rfl⟩,hK⟩
theorem fF{d:Option Nat}{k N:Nat}{z:AV}{ps:List (Nat×AO)}{os:List aA}{f:Nat}{K:S2→Nat→Prop}
  (h:goT P n (evA (.lit k N z ps) f (evO tm) hp) d os f tm hp K):evT P n (⟨d,.lit k N z ps,none⟩::os) f ⟨tm,hp⟩ K:=.inl h
theorem cI{d:Option Nat}{g:AO}{xs:List AO}{os:List aA}{f:Nat}{K:S2→Nat→Prop}{fid:FuncId}{args:List AV}{v:AV}
  (hs:bT P fid args v) (hf:iK P fid) (hg:evO tm g=.func fid []) (hx:xs.map (evO tm)=args) (hp1:aD args) (hK:evT P n os (f+16) ⟨aH d v tm,hp⟩ K) :
  evT P n (⟨d,.call g xs,none⟩::os) f ⟨tm,hp⟩ K:=
 dz hg (by simpa using hx) (aN.pure hf hs hp1) (by rw[kQ];exact hK)
def goD(P:Program)(n:Nat)(o:Out)(rd:List Nat)(d:Option Nat)(os:List aA)(f:Nat)(tm:Nat→AV)(hp:Hp)(lg:Log)(K:S2→Nat→Log→Prop):Prop:=
 o.c∧evD P n os (f+16) ⟨aH d o.v tm,bH o hp⟩ (lg++[(rd,wrH o)]) K
theorem KW{f:Nat}{lg:Log}{K:S2→Nat→Log→Prop}:evD P n [] f ⟨tm,hp⟩ lg K=K ⟨tm,hp⟩ f lg:=rfl
theorem PK{d:Option Nat}{op:AOp}{os:List aA}{f:Nat}{lg:Log}{K:S2→Nat→Log→Prop}(h:op.isCall=false) :
  evD P n (⟨d,op,none⟩::os) f ⟨tm,hp⟩ lg K=goD P n (evA op f (evO tm) hp) (rdH op tm) d os f tm hp lg K:=by
 cases op<;>first|rfl|simp[AOp.isCall]at h
theorem PA{c:Prop}{v:AV}{d:Option Nat}{os:List aA}{f:Nat}{lg:Log}{rd:List Nat}{K:S2→Nat→Log→Prop}{rm:Option Nat}{ad:Option (Nat×Blk)} :
    goD P n { c:=c,v:=v,rm:=rm,ad:=ad } rd d os f tm hp lg K=(c∧evD P n os (f+16) ⟨aH d v tm,bH { c:=True,rm:=rm,ad:=ad } hp⟩ (lg++[(rd,rm.toList++(ad.toList.map (·.1)))]) K):=rfl
theorem PM{d:Option Nat}{op:AOp}{os:List aA}{f g:Nat}{want:Bool}{lg:Log}{K:S2→Nat→Log→Prop}(h:tm g=.val (.bool want)) :
  evD P n (⟨d,op,some (g,want)⟩::os) f ⟨tm,hp⟩ lg K=evD P n (⟨d,op,none⟩::os) f ⟨tm,hp⟩ lg K:=by
 apply propext
 constructor
 ·rintro⟨t,h0,h1,_⟩;rw[show(S2.mk tm hp).tm g=tm g from rfl,h]at h0;cases h0;exact h1 rfl
 ·exact λH=>⟨some want,by rw[show(S2.mk tm hp).tm g=tm g from rfl,h];rfl,λ_=>H,λe=>absurd rfl e⟩
theorem PN{d:Option Nat}{op:AOp}{os:List aA}{f g:Nat}{want:Bool}{lg:Log}{K:S2→Nat→Log→Prop}(h:tm g=.tup []) :
  evD P n (⟨d,op,some (g,want)⟩::os) f ⟨tm,hp⟩ lg K=evD P n os (f+16) ⟨aH d (.tup []) tm,hp⟩ (lg++[([],[])]) K:=by
 apply propext
 constructor
 ·rintro⟨t,h0,_,h1⟩;rw[show(S2.mk tm hp).tm g=tm g from rfl,h]at h0;cases h0;exact h1 (by simp)
 ·exact λH=>⟨none,by rw[show(S2.mk tm hp).tm g=tm g from rfl,h];rfl,λe=>by simp at e,λ_=>H⟩
theorem PO{d:Option Nat}{op:AOp}{os:List aA}{f g:Nat}{want:Bool}{lg:Log}{K:S2→Nat→Log→Prop}(h:tm g=.val (.bool (!want))) :
  evD P n (⟨d,op,some (g,want)⟩::os) f ⟨tm,hp⟩ lg K=evD P n os (f+16) ⟨aH d (.tup []) tm,hp⟩ (lg++[([],[])]) K:=by
 apply propext
 constructor
 ·rintro⟨t,h0,_,h1⟩;rw[show(S2.mk tm hp).tm g=tm g from rfl,h]at h0;cases h0;exact h1 (by cases want<;>simp)
 ·exact λH=>⟨some (!want),by rw[show(S2.mk tm hp).tm g=tm g from rfl,h];rfl,λe=>by cases want<;>simp at e,λ_=>H⟩
theorem sY{d:Option Nat}{g:AO}{xs:List AO}{os:List aA}{f:Nat}{lg:Log}{K:S2→Nat→Log→Prop}{fid:FuncId}{caps args:List AV}{foot:List Nat}{v:AV}{e:Eff}(wr:List Nat)
  (hg:evO tm g=.func fid caps) (hx:xs.map (evO tm)++caps=args) (hc:aN P n fid args f hp foot v e) (hw:∀b,e b≠none→b∈wr) (hK:evD P n os (f+16) ⟨aH d v tm,bR e hp⟩ (lg++[(foot,wr)]) K) :
  evD P n (⟨d,.call g xs,none⟩::os) f ⟨tm,hp⟩ lg K:=
 ⟨fid,caps,foot,v,e,wr,hg,.inl (by rw[←hx]at hc;exact hc),hw,hK⟩
theorem c7{d:Option Nat}{k N:Nat}{z:AV}{ps:List (Nat×AO)}{os:List aA}{f:Nat}{lg:Log}{K:S2→Nat→Log→Prop}
  (h:goD P n (evA (.lit k N z ps) f (evO tm) hp) (rdH (.lit k N z ps) tm) d os f tm hp lg K):evD P n (⟨d,.lit k N z ps,none⟩::os) f ⟨tm,hp⟩ lg K:=.inl h
theorem F0{d:Option Nat}{k N:Nat}{z:AV}{ps:List (Nat×AO)}{os:List aA}{f:Nat}{lg:Log}{K:S2→Nat→Log→Prop}
  (h:goD P n (evL k N z ps f (evO tm)) [] d os f tm hp lg K):evD P n (⟨d,.lit k N z ps,none⟩::os) f ⟨tm,hp⟩ lg K:=.inr h
theorem uM(x y:AV):mV true x y=x:=by
 unfold mV;split<;>simp
theorem rM(x y:AV):mV false x y=y:=by
 unfold mV;split<;>simp
theorem AWP.seqI{x y:AC}{Q:X→S3→Prop}{s:S3}(I:S3→Prop)(h:AWP P k n x (oB I Q) s)(h':∀s,I s→AWP P k n y Q s):AWP P k n (.seq x y) Q s:=
 AWP.seq (h.mono λe s hq=>by
  cases e with
  | normal=>exact h' s hq
  | exit id=>exact hq
  | ret=>exact hq)
def ou(hp:Hp):Nat→List (Option Blk)→Prop
 | _,[]=>True
 | i,none::l=>ou hp (i+1) l
 | i,some x::l=>hp i=some x∧ou hp (i+1) l
theorem ou.get:∀{l:List (Option Blk)} {i:Nat},ou hp i l→∀{b x},l[b]?=some (some x)→hp (i+b)=some x
 | none::l,i,h,0,x,e=>by simp at e
 | some y::l,i,h,0,x,e=>by simp at e;subst e;exact h.1
 | none::l,i,h,b+1,x,e=>by
   have:=ou.get (l:=l) h (b:=b) (x:=x) (by simpa using e);rw[←this];congr 1;omega
 | some y::l,i,h,b+1,x,e=>by
   have:=ou.get (l:=l) h.2 (b:=b) (x:=x) (by simpa using e);rw[←this];congr 1;omega
theorem fZ{res:List AR}{r:AV}{h':List (Option Blk)}{s:S3}{xs:List AV}(h:gC s res=some xs)(h2:kC xs=r)(h3:ou s.hp 0 h'):fin k n res r h' .ret s:=
 ⟨s,ao.refl,⟨xs,h,h2⟩,λb x e=>by have:=h3.get (cg.mp e);simpa using this⟩
def cD:List (Nat×AV)→Nat→AV
 | [],_=>.unk
 | (t,x)::l,u=>if u=t then x else cD l u
def js(hp:Hp)(bs:List Nat)(m:Nat):Nat→List (Option Blk)→Prop
 | _,[]=>True
 | i,none::l=>js hp bs m (i+1) l
 | i,some x::l=>(hp (bs.getD i 0)=some (x.ren λi=>bs.getD i 0)∧x.bel m)∧js hp bs m (i+1) l
theorem js.get{bs:List Nat}{m:Nat}:∀{l:List (Option Blk)} {i:Nat},js hp bs m i l→∀{b x},l[b]?=some (some x)→hp (bs.getD (i+b) 0)=some (x.ren λi=>bs.getD i 0)∧x.bel m
 | none::l,i,h,0,x,e=>by simp at e
 | some y::l,i,h,0,x,e=>by simp at e;subst e;exact h.1
 | none::l,i,h,b+1,x,e=>by
   have:=js.get (l:=l) h (b:=b) (x:=x) (by simpa using e);rw[show i+(b+1)=i+1+b by omega];exact this
 | some y::l,i,h,b+1,x,e=>by
   have:=js.get (l:=l) h.2 (b:=b) (x:=x) (by simpa using e);rw[show i+(b+1)=i+1+b by omega];exact this
theorem ik{res:List AR}{r:AV}{h':List (Option Blk)}{s:S3}(bs:List Nat)(ts:List (Nat×AV)){xs:List AV}(h:gC ⟨cD ts,bc h',h'.length⟩ res=some xs)(h2:kC xs=r)
  (h3:∀p∈ts,s.tm p.1=p.2.ren (λi=>bs.getD i 0)∧p.2.bel h'.length) (h4:js s.hp bs h'.length 0 h') (h5:bs.length=h'.length) (h6:bs.Nodup) (h7:∀b,b<k→bs.getD b 0=b) (h8:k≤h'.length) :
  fin k n res r h' .ret s:=by
 refine⟨⟨cD ts,bc h',h'.length⟩,?_,⟨xs,h,h2⟩,λb x e=>e⟩
 refine ao.ren (λi=>bs.getD i 0) (λt=>?_) (λb x e=>?_) (λb b' e e' he=>?_) h7 h8
 ·show cD ts t=.unk∨_;clear h
  induction ts with
  | nil=>exact .inl rfl
  | cons p l ih =>
   obtain⟨t',x⟩:=p;show(if t=t' then x else cD l t)=.unk∨(s.tm t=(if t=t' then x else cD l t).ren _∧_)
   by_cases ht:t=t'
   ·subst ht;have:=h3 (t,x) (by simp);simp only[cD,↓reduceIte];exact .inr this
   ·have:=ih (λp hp=>h3 p (by simp[hp]));simp only[cD,E' ht];exact this
 ·have e:=cg.mp e;have:=h4.get e;have hb:b<h'.length:=(P'.mp e).1;simp only[az']at this;exact⟨hb,this.1,this.2⟩
 ·have hb:∀{b},bc h' b≠none→b<h'.length:=by
   intro b e
   rcases bY' b h'.length with g|g
   ·exact g
   ·exact absurd (by simp[bc,af' g]) e
  have h1:=hb e;have h2':=hb e';have g1:b<bs.length:=by omega
  have g2:b'<bs.length:=by omega
  simp only[H',f' g1,f' g2,by']at he;exact(List.getElem_inj h6).mp he
end
end Go.Am
namespace Go.Am
mutual
theorem AV.bel_pure{k:Nat}:∀{x:AV},x.pure→x.bel k
  | .agg cs,h=>aG (xs:=cs) h
  | .tup xs,h=>aG (xs:=xs) h
  | .func f caps,h=>aG (xs:=caps) h
  | .ref _ _,h=>h.elim
  | .eref _ _ _,h=>h.elim
  | .vec _,h=>h.elim
  | .vsub _ _ _,h=>h.elim
  | .asub _ _ _ _,h=>h.elim
  | .val _,_=>trivial
  | .rptr _ _,_=>trivial
  | .sl _ _ _,_=>trivial
  | .mref _,h=>h.elim
  | .mp _ _ _,_=>trivial
  | .unk,_=>trivial
theorem aG{k:Nat}:∀{xs:List AV},aD xs→gW k xs
  | [],_=>trivial
  | x::xs,h=>⟨AV.bel_pure h.1,aG h.2⟩
end
def Blk.ok:Blk→Prop
 | .box x=>x.ok
 | .vec _ es=>es.length≤maxLen∧okL es
 | .row _ es len cap=>es.length≤len∧len≤cap∧cap≤maxLen∧okL es
 | .map kk ks vs=>ks.Nodup∧(∀q∈ks,q.fits kk)∧vs.length=ks.length∧okL vs
 | _=>True
theorem ct.ok{w:World}{A:Nat→Prop}{μ:Mu}{hd:Hd}{x:Blk}(h:ct w A μ hd x):x.ok:=by
 cases x with
 | box x=>obtain⟨_,_,v,ty,h1,_⟩:=h;exact RV.ok h1
 | vec k es =>
  obtain⟨_,h|⟨h1,h2,h3,h4,C,ty,vs,h5,h6,_⟩⟩:=h
  ·obtain⟨rfl,_⟩:=h;exact⟨am' _,trivial⟩
  ·exact⟨by omega,RVL.ok h6⟩
 | row k es len cap =>
  obtain⟨_,_,_,_,h1,h2,h3,C,ty,vs,_,h6,_⟩:=h;exact⟨h1,h2,h3,RVL.ok h6⟩
 | map kk ks vs =>
  obtain⟨_,ents,clock,h3,h4,h5,h6⟩:=h;exact⟨h4.nodup,h4.2.1,by rw[h5.length,u',aH',h4.len],RVL.ok h5⟩
 | mst _ _ _ _ _=>trivial
 | itr _ _ _ _=>trivial
theorem aF.of_okh{P:Program}{f:FuncId}{args:List AV}{hb:List Blk}{r:AV}{h':List (Option Blk)}(h:okL args→(∀x∈hb,x.ok)→aF P f args hb r h'):aF P f args hb r h':=by
 intro w A μ cargs h1 h2 h3;refine h (RVL.ok h3) (λx hx=>?_) w A μ cargs h1 h2 h3;obtain⟨i,hi,e⟩:=List.mem_iff_getElem.mp hx;obtain⟨hd,_,g,_⟩:=h1.blk i x (cu.mpr (by rw[f' hi,e]));exact g.ok
section
variable {P : Program} {k n : Nat} {tm : Nat → AV} {hp : Hp} {fid : FuncId}
theorem aN.own{args:List AV}{x x' r:AV}{b f off:Nat}(hs:aF P fid (.ref 0 off::args) [.box x] r [some (.box x')])(hf:iK P fid)(h1:aD args)(h2:x.pure)(h3:x'.pure)(h4:r.pure)
  (hb:hp b=some (.box x)):aN P n fid (.ref b off::args) f hp [b] r (dT [(b,some (.box x'))]):=by
 have key:=aN.hand (n:=n) (f:=f) (hp:=hp) hf hs [b] rfl (by simp) ⟨Nat.zero_lt_one,aG h1⟩ (λi c y e1 e2=>by
  cases i with
  | succ i=>simp at e1
  | zero =>
   simp at e1 e2;subst e1;subst e2;exact⟨AV.bel_pure h2,by rw[hb];simp only[Blk.ren,AV.ren_pure _ h2]⟩) (X' _) (by simp) (AV.bel_pure h4) (λy hy=>by simp at hy;subst hy;exact AV.bel_pure h3)
 have e1:aI [b] f 0=b:=by simp[aI]
 rw[cG,aK _ h1,AV.ren_pure _ h4,AV.ren,e1]at key;have e2:bI [b] f [some (Blk.box x')]=dT [(b,some (.box x'))]:=by
  simp[bI,List.zipIdx,e1,Blk.ren,AV.ren_pure _ h3]
 rwa [e2]at key
theorem gL(b:Nat)(x:Option Blk)(hp:Hp):bR (dT [(b,x)]) hp=upd hp b x:=by rw[bw,ek]
theorem F2{b c:Nat}{x:Option Blk}(h:dT [(b,x)] c≠none):c∈[b]:=by
 by_cases e:c=b
 ·simp[e]
 ·exact absurd (by simp[dT,e,cB]) h
theorem dd{d:Option Nat}{g:AO}{xs:List AO}{os:List aA}{f:Nat}{K:S2→Nat→Prop}{args:List AV}{x x' r:AV}{b off:Nat}(hs:aF P fid (.ref 0 off::args) [.box x] r [some (.box x')])(hf:iK P fid)
  (h1:aD args) (h2:x.pure) (h3:x'.pure) (h4:r.pure) (hg:evO tm g=.func fid []) (hx:xs.map (evO tm)=.ref b off::args) (hb:hp b=some (.box x))
  (hK:evT P n os (f+16) ⟨aH d r tm,upd hp b (some (.box x'))⟩ K):evT P n (⟨d,.call g xs,none⟩::os) f ⟨tm,hp⟩ K:=
 dz hg (by simpa using hx) (aN.own hs hf h1 h2 h3 h4 hb) (by rw[gL];exact hK)
theorem mB{d:Option Nat}{g:AO}{xs:List AO}{os:List aA}{f:Nat}{lg:Log}{K:S2→Nat→Log→Prop}{args:List AV}{x x' r:AV}{b off:Nat}(hs:aF P fid (.ref 0 off::args) [.box x] r [some (.box x')])(hf:iK P fid)
  (h1:aD args) (h2:x.pure) (h3:x'.pure) (h4:r.pure) (hg:evO tm g=.func fid []) (hx:xs.map (evO tm)=.ref b off::args) (hb:hp b=some (.box x))
  (hK:evD P n os (f+16) ⟨aH d r tm,upd hp b (some (.box x'))⟩ (lg++[([b],[b])]) K):evD P n (⟨d,.call g xs,none⟩::os) f ⟨tm,hp⟩ lg K:=
 sY [b] hg (by simpa using hx) (aN.own hs hf h1 h2 h3 h4 hb) (λ_ h=>F2 h) (by rw[gL];exact hK)
end
end Go.Am
namespace Go.Am
def Old(w:World)(b:Nat):Prop:=b<w.heap.size
/-- A program that has none of the package variables that the layer knows. -/
def kr (P : Program) : Bool := (P.globalNamed "internal/strconv.uint64pow10").isNone && (P.globalNamed "math/bits.deBruijn64tab").isNone
theorem BN{P:Program}(h:kr P=true){n:String}{k:IntKind}{zs:List Int}{g:Nat}(e1:NX n=some (k,zs))(e2:P.globalNamed n=some g):False:=by
 unfold NX at e1
 split at e1
 ·rename_i e;subst e;unfold kr at h;rw[e2]at h;cases h
 split at e1
 ·rename_i e;subst e;unfold kr at h;rw[e2,Bool.and_comm]at h;cases h
 ·cases e1
theorem LtOk.none{P:Program}(h:∀g,gvP P g=none)(ht:kr P=true)(w:World):LtOk P (Old w) w:=⟨λ_ hb=>hb,λg x e=>by (rw[h g]at e;cases e),λ_ _ _ _ e1 e2=>(BN ht e1 e2).elim⟩
theorem bT.below{P:Program}{f:FuncId}{args:List AV}{r:AV}(h:bT P f args r){w:World}(hG:LtOk P (Old w) w){cargs:List Value}(ha:RVL w (Old w) args eK cargs) :
  Calls P f cargs.toArray w λe w'=>∃v A',e=.returned v∧RV w' A' r eK v∧RowKit.Below w.heap.size w w':=
 (h w (Old w) cargs hG ha).mono λe w' ⟨v,A',h1,h2,h3,_⟩=>⟨v,A',h1,h2,⟨h3.os,h3.tape,h3.output,h3.size,λk hk=>h3.block k hk (λh=>h)⟩⟩
theorem bT.belowB{P:Program}{f:FuncId}{args:List AV}{b:Bool}(h:bT P f args (.bool b)){w:World}(hG:LtOk P (Old w) w){cargs:List Value}(ha:RVL w (Old w) args eK cargs) :
  Calls P f cargs.toArray w λe w'=>e=.returned (.bool b)∧RowKit.Below w.heap.size w w':=
 (h.below hG ha).mono λe w' ⟨v,A',h1,h2,h3⟩=>⟨by rw[h1,h2.1],h3⟩
theorem Addr.eta{w:World}{x:Addr}{v:Value}(h:w.cell? x=some v):x=⟨x.block,x.off,none⟩∧x.block<w.heap.size:=by
 unfold World.cell? at h
 split at h
 ·rename_i c ty z e;have hs:x.spot=none:=by
   cases hx:x.spot with
   | none=>rfl
   | some s=>rw[hx]at h;simp at h
  refine⟨by cases x;simp_all,?_⟩
  rcases bY' x.block w.heap.size with g|g
  ·exact g
  ·rw[Array.getElem?_eq_none g]at e;cases e
 ·cases h
end Go.Am
namespace Go.Am
def Sub(x y:AV):Prop:=∀(w:World) (A:Nat→Prop) (μ:Mu) (v:Value),RV w A x μ v→RV w A y μ v
def bX:List AV→List AV→Prop
 | [],[]=>True
 | x::xs,y::ys=>Sub x y∧bX xs ys
 | _,_=>False
theorem Sub.refl{x:AV}:Sub x x:=λ_ _ _ _ h=>h
theorem bX.refl:∀{xs:List AV},bX xs xs
 | []=>trivial
 | _::_=>⟨Sub.refl,bX.refl⟩
theorem bX.rvl{w:World}{A:Nat→Prop}{μ:Mu}:∀{xs ys:List AV} {vs:List Value},bX xs ys→RVL w A xs μ vs→RVL w A ys μ vs
 | [],[],_,_,h=>h
 | x::xs,y::ys,_,hs,⟨v,vs',h1,h2,h3⟩=>⟨v,vs',h1,hs.1 w A μ v h2,bX.rvl hs.2 h3⟩
 | [],_::_,_,hs,_=>hs.elim
 | _::_,[],_,hs,_=>hs.elim
theorem Sub.sl{k k':Nat}{es:List AV}{full full':Bool}(h:k=k'∨es=[])(hf:full'=true→full=true):Sub (.sl k es full) (.sl k' es full'):=by
 intro w A μ v hv
 rcases hv with⟨h1,h2⟩|⟨blk,off,cap,vs,e1,e2,e3,e4,e5,e6,e7,e8⟩
 ·exact .inl ⟨h1,h2⟩
 ·refine .inr ⟨blk,off,cap,vs,e1,e2,e3,e4,λh=>e5 (hf h),e6,λu hu=>?_,e8⟩
  rcases h with h|h
  ·rw[←h];exact e7 u hu
  ·subst h;simp[RVL]at e6;subst e6;simp at hu
theorem Sub.agg{xs ys:List AV}(h:bX xs ys):Sub (.agg xs) (.agg ys):=λw A μ v ⟨vs,h1,h2,h3⟩=>⟨vs,h1,h.rvl h2,h3⟩
theorem Sub.tup{xs ys:List AV}(h:bX xs ys):Sub (.tup xs) (.tup ys):=λw A μ v ⟨vs,h1,h2⟩=>⟨vs,h1,h.rvl h2⟩
theorem Sub.unk{x:AV}:Sub x .unk:=λ_ _ _ _ _=>trivial
theorem bT.sub{P:Program}{f:FuncId}{args args':List AV}{r r':AV}(h:bT P f args r)(ha:bX args' args)(hr:Sub r r'):bT P f args' r':=
 λw A cargs h1 h2=>(h w A cargs h1 (ha.rvl h2)).mono λe w' ⟨v,A',g1,g2,g3⟩=>⟨v,A',g1,hr _ _ _ _ g2,g3⟩
theorem aF.sub{P:Program}{f:FuncId}{args args':List AV}{hb:List Blk}{r r':AV}{h':List (Option Blk)}(h:aF P f args hb r h')(ha:bX args' args)(hr:Sub r r'):aF P f args' hb r' h':=
 λw A μ cargs h1 h2 h3=>(h w A μ cargs h1 h2 (ha.rvl h3)).mono λe w' ⟨v,A',μ',g1,g2,g3⟩=>⟨v,A',μ',g1,hr _ _ _ _ g2,g3⟩
theorem ao.sub{k n:Nat}{s s':S3}(h1:∀t,Sub (s.tm t) (s'.tm t))(h2:s'.hp=s.hp)(h3:s'.nx=s.nx):ao k n s s':=by
 rintro P c a w ⟨h0,A,μ,H⟩;refine⟨h0,A,μ,⟨λt=>h1 t _ _ _ _ (H.tm t),H.n,H.df,by rw[h2];exact H.blk,by rw[h2];exact H.inj,H.lt,by rw[h2,h3];exact H.fr,H.keep,H.A0,H.A1,H.mu⟩⟩
theorem ct.row_vec{w:World}{A:Nat→Prop}{μ:Mu}{hd:Hd}{k cap:Nat}{es:List AV}(h:ct w A μ hd (.row k es es.length cap)):ct w A μ hd (.vec k es):=by
 obtain⟨h1,h2,h3,h4,h5,h6,h7,C,ty,vs,g1,g2,g3,g4,g5,g6⟩:=h;exact⟨h1,.inr ⟨h2,h3,by omega,by omega,C,ty,vs,g1,g2,g3,g4,by rw[h4];exact g5,by rw[h3];exact g6⟩⟩
theorem ct.vec_row{w:World}{A:Nat→Prop}{μ:Mu}{hd:Hd}{k:Nat}{es:List AV}(h:ct w A μ hd (.vec k es))(he:hd.emp=none) :
  es.length≤hd.cap∧hd.cap≤maxLen∧ct w A μ hd (.row k es es.length hd.cap):=by
 obtain⟨h1,⟨_,h2⟩|⟨h2,h3,h4,h5,C,ty,vs,g1,g2,g3,g4,g5,g6⟩⟩:=h
 ·rw[he]at h2;cases h2
 ·exact⟨by omega,h5,h1,h2,h3,rfl,X' _,by omega,h5,C,ty,vs,g1,g2,g3,g4,g5,by rw[←h3];exact g6⟩
theorem ao.row{kk n b k cap nx:Nat}{es:List AV}{tm:Nat→AV}{hp:Hp}(hb:hp b=some (.row k es es.length cap)):ao kk n ⟨tm,hp,nx⟩ ⟨tm,upd hp b (some (.vec k es)),nx⟩:=by
 rintro P c a w ⟨h0,A,μ,H⟩;have back:∀b' x,upd hp b (some (.vec k es)) b'=some x→∃y,hp b'=some y∧∀hd,ct w A μ hd y→ct w A μ hd x:=by
  intro b' x hx
  by_cases e:b'=b
  ·subst e;rw[ak]at hx;cases hx;exact⟨_,hb,λhd h=>h.row_vec⟩
  ·rw[ai _ _ e]at hx;exact⟨x,hx,λhd h=>h⟩
 refine⟨h0,A,μ,⟨H.tm,H.n,H.df,λb' x hx=>?_,λb1 b2 x x' hd hd' hx hx'=>?_,H.lt,λb' hb'=>?_,H.keep,H.A0,H.A1,H.mu⟩⟩
 ·obtain⟨y,e1,e2⟩:=back b' x hx;obtain⟨hd,g1,g2,g3⟩:=H.blk b' y e1;exact⟨hd,g1,e2 hd g2,g3⟩
 ·obtain⟨y,e1,_⟩:=back b1 x hx;obtain⟨y',e1',_⟩:=back b2 x' hx';exact H.inj b1 b2 y y' hd hd' e1 e1'
 ·obtain⟨q1,q2⟩:=H.fr b' hb';refine⟨q1,?_⟩;have q2:hp b'=none:=q2;show upd hp b (some (.vec k es)) b'=none;rw[ai _ _ (by rintro rfl;rw[hb]at q2;cases q2)];exact q2
theorem aF.of_row{P:Program}{f:FuncId}{args:List AV}{k:Nat}{es:List AV}{hs:List Blk}{r:AV}{h':List (Option Blk)}
  (h1:∀cap,es.length≤cap→cap≤maxLen→aF P f args (.row k es es.length cap::hs) r h') (h2:es=[]→aF P f args (.vec k es::hs) r h'):aF P f args (.vec k es::hs) r h':=by
 intro w A μ cargs g1 g2 g3;obtain⟨hd,e1,e2,e3⟩:=g1.blk 0 (.vec k es) (cu.mpr rfl);cases he:hd.emp with
 | some a =>
  have:es=[]:=by
   obtain⟨_,⟨h,_⟩|⟨h,_⟩⟩:=e2
   ·exact h
   ·rw[he]at h;cases h
  exact h2 this w A μ cargs g1 g2 g3
 | none =>
  obtain⟨q1,q2,q3⟩:=e2.vec_row he;have back:∀b x,bc ((Blk.row k es es.length hd.cap::hs).map some) b=some x→∃y,bc ((Blk.vec k es::hs).map some) b=some y∧∀hd',μ b=some hd'→ct w A μ hd' y→ct w A μ hd' x:=by
   intro b x hx;rw[cu]at hx;cases b with
   | zero =>
    simp at hx;subst hx;exact⟨_,cu.mpr rfl,λhd' hm _=>by rw[e1]at hm;cases hm;exact q3⟩
   | succ b=>exact⟨x,cu.mpr (by simpa using hx),λ_ _ h=>h⟩
  have own:∀b,cr μ (bc ((Blk.row k es es.length hd.cap::hs).map some)) b↔cr μ (bc ((Blk.vec k es::hs).map some)) b:=by
   intro b
   constructor
   ·rintro⟨i,x,hd',a1,a2,a3,a4⟩;obtain⟨y,b1,_⟩:=back i x a1;exact⟨i,y,hd',b1,a2,a3,a4⟩
   ·rintro⟨i,x,hd',a1,a2,a3,a4⟩;cases i with
    | zero=>exact⟨0,_,hd',cu.mpr rfl,a2,a3,a4⟩
    | succ i=>exact⟨i+1,x,hd',cu.mpr (by rw[cu]at a1;simpa using a1),a2,a3,a4⟩
  have own':cr μ (bc ((Blk.row k es es.length hd.cap::hs).map some))=cr μ (bc ((Blk.vec k es::hs).map some)):=by funext b;exact propext (own b)
  have:=h1 hd.cap q1 q2 w A μ cargs ⟨λb x hx=>?_,λb b' x x' hd1 hd2 hx hx'=>?_,g1.lt⟩ (by simpa using g2) g3
  ·rw[own']at this;exact this
  ·obtain⟨y,b1,b2⟩:=back b x hx;obtain⟨hd',c1,c2,c3⟩:=g1.blk b y b1;exact⟨hd',c1,b2 hd' c1 c2,c3⟩
  ·obtain⟨y,b1,_⟩:=back b x hx;obtain⟨y',b1',_⟩:=back b' x' hx';exact g1.inj b b' y y' hd1 hd2 b1 b1'
end Go.Am
namespace Go.Am
set_option linter.defProp false
theorem HZ(n:Nat):(0=n+1)=False:=by simp
theorem OF(n:Nat):(1=n+2)=False:=by simp
theorem D7(n:Nat):(n+1=0)=False:=by simp
def stepU:=B' @KM (B' @PG (B' @P9 (B' @PH (B' @PI (B' @PJ (B' @KW (B' @PK (B' @PA (B' @PM (B' @PN (B' @PO (B' @evO_t (B' @evO_c (B' @NL (B' @Av (B' @Aw (B' @true_and (B' @and_true (B' @uM (B' @rM (B' @Bool.not_true (B' @Bool.not_false (B' @aq' (B' @List.flatMap_nil (B' @aS' (B' @bc' (B' @bu' (B' @List.cons_append (B' @Option.toList_some (B' @Option.toList_none (B' @aE' (B' @bQ' (B' @Y' (B' @al' (B' @X' (B' @List.take_zero (B' @bX' (B' @List.take_succ_cons (B' @List.drop_succ_cons (B' @List.take_nil (B' @List.drop_nil (B' @aN' (B' @List.foldl_nil (B' @Option.isSome_none (B' @List.getD_cons_zero (B' @List.getD_cons_succ (B' @ai' (B' @Option.map_none (B' @bx' (B' @az' (B' @HZ (B' @OF (B' @D7 (B' @false_and (B' @and_false (B' @Bool.and_true (B' @Bool.and_false ((B' @beq_self_eq_true (B' @bne_self_eq_false (B' @Bool.true_and (B' @Bool.false_and (B' @Bool.or_false (B' @Bool.false_or (B' @Bool.true_or (B' @Bool.or_true (B' @Int.toNat_one (B' @Int.cast_ofNat_Int (B' @Int.sub_zero (B' @Int.toNat_zero (B' @Int.zero_le_ofNat (B' @bC' (B' @and_self (B' @Nat.zero_mul (B' @Nat.mul_one (B' @decide_true (B' @decide_false (B' @Option.getD_none (B' @by' (B' @ah' (B' @aB' (B' @or_false (B' @true_or (((B' @false_implies (B' @L' (@AQ))))))))))))))))))))))))))))))))))))))))))))))))))))))))))))))))))))))))))))))))))))))))
def stepS:=@stepU.{0,0,0,0,0,0,0,0,0,0,0,0,0,0,0,0,0,0,0,0,0,0,0,0,0,0,0,0,0,0,0,0,0,0,0,0,0,0,0}
end Go.Am
namespace Go.Am
theorem nN{w:World}{b o:Nat}{C:Array Value}{ty:TypeId}(h:w.heap[b]?=some (.cells C ty (0,0))):w.frozen? ⟨b,o,none⟩=false:=by
 simp[World.frozen?,h]
theorem qf {P : Program} {n : Nat} {fid : FuncId} {fn : Func} {tS tR e : TypeId} {k : Nat} (hf : P.funcs[fid]? = some fn) (hname : (fn.name == "runtime.NumGoroutine") = false) (hb : fn.body.isNone = true) (hn : Extern.findNext fn = none)
    (he : Extern.find fn = some (Extern.SlicesOverlaps.overlaps #[tS, tS] #[tR])) (ht : P.underlying tS = some (.slice e)) (hs : sizeOf? P e = some k) (hk : 0 < k)
    {hp : Hp} {b1 b2 lo m len cap : Nat} {es1 es : List AV} (h1 : hp b1 = some (.vec k es1)) (h2 : hp b2 = some (.row k es len cap)) (hne : b1 ≠ b2) (hes : es1 ≠ []) (hcap : 0 < cap) :
    tU P n fid [.vec b1, .vsub b2 lo m] hp [b1, b2] (.bool false) := by
  intro c A μ fr tm' hp' a w cargs H hfoot hargs;have g1 := (hfoot b1 (by simp)).trans h1;have g2 := (hfoot b2 (by simp)).trans h2;obtain ⟨v1, vs, rfl, ⟨hd1, e1, rfl⟩, v2, vs2, rfl, ⟨hd2, cap2, o, e2, e3, e4, e5, e6, rfl⟩, rfl⟩ := hargs;obtain ⟨hd1', f1, f2, f3⟩ := H.vec g1;rw [e1] at f1; cases f1;obtain ⟨hd2', q1, q2, q3, q4, q5, q6, q7, q8, C2, ty2, us2, k1, _, _, _, k5, _⟩ := H.row g2;rw [e2] at q1; cases q1
  rcases f3 with ⟨rfl, _⟩ | ⟨p1, p2, p3, p4, C1, ty1, us1, r1, _⟩
  · exact absurd rfl hes
  have hbl : hd1.blk ≠ hd2.blk := fun h => hne (H.inj b1 b2 _ _ hd1 hd2 g1 g2 e1 e2 p1 e3 h);have hv : hd1.val = .slice (some ⟨hd1.blk, 0, none⟩) hd1.len hd1.cap := by rw [Hd.val, p1]
  have hrun := Lib.run_overlaps_apart (P := P) w tS tR e ht k (fun w => aO hs) ⟨hd1.blk, 0, none⟩ ⟨hd2.blk, o, none⟩ hd1.len hd1.cap m cap2 hbl ty1 ty2 C1.size C2.size
    (by simp [World.shape?, r1]) (by simp [World.shape?, k1]) (by have := Nat.mul_pos hcap hk; omega) (nN r1) (nN r1)
  refine ⟨.bool false, ?_, cn _⟩;rw [run_callFunc_extern hf hname hb hn he, hv, hrun];rfl
end Go.Am
namespace Go.Am
def hpL:Nat→List (Option Blk)→Nat→Option Blk
 | _,[],_=>none
 | i,x::l,b=>if b=i then x else hpL (i+1) l b
theorem Pv(i:Nat)(x:Option Blk)(l:List (Option Blk))(b:Nat):hpL i (x::l) b=if b=i then x else hpL (i+1) l b:=rfl
theorem K9(i b:Nat):hpL i [] b=none:=rfl
theorem Jm(t:Nat)(x:AV)(l:List (Nat×AV))(u:Nat):cD ((t,x)::l) u=if u=t then x else cD l u:=rfl
theorem C7(u:Nat):cD [] u=.unk:=rfl
theorem jF{a:Int}{b:Nat}(h:a=(b:Int))(h2:b≤9223372036854775807):IntKind.i64.wrap a=(b:Int):=by rw[h];exact IntWalk.i64_in _ (by omega)
theorem vN:∀(l:List (Option Blk)) (i b:Nat),hpL i l b=if i≤b then(l[b-i]?).join else none
 | [],i,b=>by simp[hpL]
 | x::l,i,b=>by
  rw[hpL]
  by_cases h:b=i
  ·subst h;simp
  ·rw[E' h,vN l (i+1) b]
   by_cases h1:i≤b
   ·have:b-i=(b-(i+1))+1:=by omega
    rw[F' h1,F' (by omega),this,List.getElem?_cons_succ]
   ·rw[E' h1,E' (by omega)]
theorem kP(l:List (Option Blk)):bc l=hpL 0 l:=by
 funext b;rw[vN];simp[bc]
section
variable {P : Program} {k n : Nat}
def Bv(tm:Nat→AV)(bs:List Nat)(m:Nat):List (Nat×AV)→Prop
 | []=>True
 | (t,x)::l=>(tm t=x.ren (λi=>bs.getD i 0)∧x.bel m)∧Bv tm bs m l
theorem Bv.all{tm:Nat→AV}{bs:List Nat}{m:Nat}:∀{l:List (Nat×AV)},Bv tm bs m l→∀p∈l,tm p.1=p.2.ren (λi=>bs.getD i 0)∧p.2.bel m
 | [],_,p,hp=>by simp at hp
 | (t,x)::l,h,p,hp=>by
  rcases ah'.mp hp with rfl|hp
  ·exact h.1
  ·exact Bv.all h.2 p hp
theorem ao.nf{tm:Nat→AV}{hp:Hp}{nx:Nat}(bs:List Nat)(ts:List (Nat×AV))(hs:List (Option Blk)){m:Nat}(h3:Bv tm bs m ts)(h4:js hp bs m 0 hs)
  (h5:bs.length=hs.length∧hs.length=m) (h6:bs.Nodup) (h7:∀b,b<k→bs.getD b 0=b) (h8:k≤m):ao k n ⟨tm,hp,nx⟩ ⟨cD ts,hpL 0 hs,m⟩:=by
 obtain⟨h5,rfl⟩:=h5
 refine ao.ren (λi=>bs.getD i 0) (λt=>?_) (λb x e=>?_) (λb b' e e' he=>?_) h7 h8
 ·show cD ts t=.unk∨_;have h3:=h3.all
  induction ts with
  | nil=>exact .inl rfl
  | cons p l ih =>
   obtain⟨t',x⟩:=p;show(if t=t' then x else cD l t)=.unk∨(tm t=(if t=t' then x else cD l t).ren _∧_)
   by_cases ht:t=t'
   ·subst ht;have:=h3 (t,x) (by simp);simp only[cD,↓reduceIte];exact .inr this
   ·have:=ih (by assumption |> λ(h:Bv _ _ _ ((t',x)::l))=>h.2) (λp hp=>h3 p (by simp[hp]));simp only[cD,E' ht];exact this
 ·rw[show(⟨cD ts,hpL 0 hs,hs.length⟩:S3).hp=bc hs from(kP hs).symm]at e;have e:=cg.mp e;have:=h4.get e;have hb:b<hs.length:=(P'.mp e).1;simp only[az']at this;exact⟨hb,this.1,this.2⟩
 ·rw[show(⟨cD ts,hpL 0 hs,hs.length⟩:S3).hp=bc hs from(kP hs).symm]at e e';have hb:∀{b},bc hs b≠none→b<hs.length:=by
   intro b e
   rcases bY' b hs.length with g|g
   ·exact g
   ·exact absurd (by simp[bc,af' g]) e
  have h1:=hb e;have h2':=hb e';have g1:b<bs.length:=by omega
  have g2:b'<bs.length:=by omega
  simp only[H',f' g1,f' g2,by']at he;exact(List.getElem_inj h6).mp he
theorem AWP.loopS{Q:X→S3→Prop}{s:S3}{x:AC}{σ:Type}(st:σ→S3)(inv:σ→Prop)(μ:σ→Nat){i0:σ}(h0:inv i0)(hw:ao k n s (st i0))
  (round:∀i,inv i→AWP P k n x (oB (λs'=>∃j,inv j∧μ j<μ i∧ao k n s' (st j)) Q) (st i)):AWP P k n (.loop x) Q s:=by
 refine AWP.loop (λm s=>∃i,inv i∧m=μ i∧s=st i) ⟨_,hw,i0,h0,rfl,rfl⟩ ?_;rintro m s ⟨i,hi,rfl,rfl⟩;refine(round i hi).mono ?_;intro e s hq;cases e with
 | normal=>obtain⟨j,h1,h2,h3⟩:=hq;exact⟨_,_,h2,h3,j,h1,rfl,rfl⟩
 | exit id=>exact hq
 | ret=>exact hq
theorem RV.nilsl{w:World}{A:Nat→Prop}{μ:Mu}{kk:Nat}{v:Value}(h:RV w A (.sl kk [] true) μ v):∃a:Option Addr,v=.slice a 0 0:=by
 rcases h with⟨_,h⟩|⟨blk,off,cap,vs,e1,e2,e3,e4,e5,_⟩
 ·exact h
 ·have:=e5 rfl;simp at this;subst this;exact⟨_,e1⟩
theorem ao.nilvec{tm:Nat→AV}{hp:Hp}{nx:Nat}(t0 kk k':Nat)(h:tm t0=.sl kk [] true)(hk:k≤nx):ao k n ⟨tm,hp,nx⟩ ⟨upd tm t0 (.vec nx),upd hp nx (some (.vec k' [])),nx+1⟩:=by
 rintro P c a w ⟨h0,A,μ,H⟩;obtain⟨ad,hv⟩:=RV.nilsl (by have:=H.tm t0;rw[show(⟨tm,hp,nx⟩:S3).tm t0=_ from h]at this;exact this);obtain⟨f1,f2⟩:μ nx=none∧hp nx=none:=H.fr nx (X' _)
 let hd:Hd:=⟨some ad,0,k',0,0⟩
 have hle:bu μ (upd μ nx (some hd)):=by
  intro b hd' e
  by_cases g:b=nx
  ·subst g;rw[f1]at e;cases e
  ·rw[ai _ _ g];exact e
 have key:=H.add nx f2 (upd μ nx (some hd)) hle (λb hb=>ai _ _ hb) hd (ak _ _ _) (.vec k' []) ⟨rfl,.inl ⟨rfl,rfl⟩⟩ (λe=>by cases e) (λ_ _ _ _ _ _ e=>by cases e)
 refine⟨h0,A,upd μ nx (some hd),⟨λt=>?_,key.n,key.df,key.blk,key.inj,key.lt,λb hb=>?_,key.keep,key.A0,key.A1,key.mu⟩⟩
 ·by_cases ht:t=t0
  ·subst ht;show RV w A (upd tm t (.vec nx) t) _ _;rw[ak];exact⟨hd,ak _ _ _,hv⟩
  ·show RV w A (upd tm t0 (.vec nx) t) _ _;rw[ai _ _ ht];exact key.tm t
 ·have hb:nx+1≤b:=hb;exact key.fr b ⟨show nx≤b by omega,by omega⟩
theorem RVL.setAt{w:World}{A:Nat→Prop}{μ:Mu}:∀{xs:List AV} {vs:List Value} {i:Nat} {y:AV} {v:Value},RVL w A xs μ vs→vs[i]?=some v→RV w A y μ v→RVL w A (xs.set i y) μ vs
 | [],vs,i,y,v,h,hi,hy=>h
 | z::xs,vs,0,y,v,⟨v',vs',e,h1,h2⟩,hi,hy=>by
  subst e;simp at hi;subst hi;exact⟨_,_,rfl,hy,h2⟩
 | z::xs,vs,i+1,y,v,⟨v',vs',e,h1,h2⟩,hi,hy=>by
  subst e;exact⟨_,_,rfl,h1,RVL.setAt h2 (by simpa using hi) hy⟩
theorem ao.nilvecB{tm:Nat→AV}{hp:Hp}{nx:Nat}(b0 i kk k':Nat)(cs:List AV)(hb:hp b0=some (.box (.agg cs)))(h:cs[i]?=some (.sl kk [] true))(hk:k≤nx) :
  ao k n ⟨tm,hp,nx⟩ ⟨tm,upd (upd hp b0 (some (.box (.agg (cs.set i (.vec nx)))))) nx (some (.vec k' [])),nx+1⟩:=by
 rintro P c a w ⟨h0,A,μ,H⟩;obtain⟨hd0,q1,⟨q2,q3,v0,ty0,⟨vs0,q4,q5,q6⟩,q7⟩,q8⟩:=H.blk b0 _ hb;have hi:i<cs.length:=(P'.mp h).1;have hv0:=(RVL.length q5)
 obtain⟨vi,hvi⟩:∃vi,vs0[i]?=some vi:=⟨vs0[i]'(by omega),f' (by omega)⟩
 obtain⟨ad,hv⟩:=RV.nilsl (RVL.get2 q5 h hvi);obtain⟨f1,f2⟩:μ nx=none∧hp nx=none:=H.fr nx (X' _)
 let hd:Hd:=⟨some ad,0,k',0,0⟩
 have hne:b0≠nx:=λe=>by subst e;rw[f2]at hb;cases hb
 have hle:bu μ (upd μ nx (some hd)):=by
  intro b hd' e
  by_cases g:b=nx
  ·subst g;rw[f1]at e;cases e
  ·rw[ai _ _ g];exact e
 have key:=H.add nx f2 (upd μ nx (some hd)) hle (λb hb=>ai _ _ hb) hd (ak _ _ _) (.vec k' []) ⟨rfl,.inl ⟨rfl,rfl⟩⟩ (λe=>by cases e) (λ_ _ _ _ _ _ e=>by cases e);have hswap:upd (upd hp b0 (some (.box (.agg (cs.set i (.vec nx)))))) nx (some (.vec k' []))=upd (upd hp nx (some (.vec k' []))) b0 (some (.box (.agg (cs.set i (.vec nx))))):=by
  funext b
  by_cases e1:b=b0
  ·subst e1;rw[ak,ai _ _ hne,ak]
  ·rw[ai _ _ e1]
   by_cases e2:b=nx
   ·subst e2;rw[ak,ak]
   ·rw[ai _ _ e2,ai _ _ e1,ai _ _ e2]
 rw[hswap];have back:∀b x,upd (upd hp nx (some (.vec k' []))) b0 (some (.box (.agg (cs.set i (.vec nx))))) b=some x→∃y,upd hp nx (some (.vec k' [])) b=some y:=by
  intro b x hx
  by_cases e:b=b0
  ·subst e;exact⟨.box (.agg cs),by rw[ai _ _ hne];exact hb⟩
  ·rw[ai _ _ e]at hx;exact⟨x,hx⟩
 refine⟨h0,A,upd μ nx (some hd),⟨key.tm,key.n,key.df,λb x hx=>?_,λb b' x x' hd1 hd2 hx hx'=>?_,key.lt,λb hb'=>?_,key.keep,key.A0,key.A1,key.mu⟩⟩
 ·by_cases e:b=b0
  ·subst e;have hx:some (Blk.box (.agg (cs.set i (.vec nx))))=some x:=by
    rw[←hx];exact(ak _ _ _).symm
   cases hx;refine⟨hd0,hle _ _ q1,⟨q2,rfl,v0,ty0,⟨vs0,q4,?_,q6⟩,q7⟩,q8⟩;exact RVL.setAt (RVL.mono (λ_ _=>rfl) (λ_ h=>h) _ hle q5) hvi ⟨hd,ak _ _ _,hv⟩
  ·have hx:upd hp nx (some (.vec k' [])) b=some x:=by
    rw[←hx];exact(ai _ _ e).symm
   exact key.blk b x hx
 ·obtain⟨y,hy⟩:=back b x hx;obtain⟨y',hy'⟩:=back b' x' hx';exact key.inj _ _ _ _ _ _ hy hy'
 ·have hb':nx+1≤b:=hb';have:upd μ nx (some hd) b=none∧upd hp nx (some (.vec k' [])) b=none:=key.fr b ⟨show nx≤b by omega,by omega⟩;refine⟨this.1,?_⟩;show upd (upd hp nx (some (.vec k' []))) b0 _ b=none
  by_cases e:b=b0
  ·subst e;have:=this.2;rw[ai _ _ hne,hb]at this;cases this
  ·rw[ai _ _ e];exact this.2
end
end Go.Am
namespace Go.Am
section
variable {P : Program} {k n : Nat} {tm : Nat → AV} {hp : Hp} {nx : Nat}
theorem ao.giveT{kk:Nat}{es:List AV}(t b:Nat)(ht:tm t=.vec b)(hb:hp b=some (.vec kk es))(hx:aD es):ao k n ⟨tm,hp,nx⟩ ⟨upd tm t (.sl kk es false),upd hp b none,nx⟩:=by
 refine ao.give b rfl (λu=>.inr ?_) (λb' x hx'=>?_) (by show hp b≠none;rw[hb];simp)
 ·show aZ b hp (tm u) (upd tm t (.sl kk es false) u)
  by_cases e:u=t
  ·subst e;rw[ak,ht];exact aZ.vec hb hx
  ·rw[ai _ _ e];exact aZ.refl
 ·have hx':upd hp b none b'=some x:=hx'
  by_cases e:b'=b
  ·subst e;rw[ak]at hx';cases hx'
  ·rw[ai _ _ e]at hx';exact⟨e,.inl hx'⟩
theorem cM.set{b:Nat}{hp:Hp}{y:AV}:∀{cs:List AV} {i:Nat} {x:AV},cs[i]?=some x→aZ b hp x y→cM b hp cs (cs.set i y)
 | [],i,x,h,_=>by simp at h
 | c::cs,0,x,h,g=>by simp at h;subst h;exact⟨g,cM.refl⟩
 | c::cs,i+1,x,h,g=>⟨aZ.refl,cM.set (by simpa using h) g⟩
theorem ao.giveB{kk:Nat}{es cs:List AV}(b0 i b:Nat)(h0:hp b0=some (.box (.agg cs)))(hi:cs[i]?=some (.vec b))(hb:hp b=some (.vec kk es))(hx:aD es) :
  ao k n ⟨tm,hp,nx⟩ ⟨tm,upd (upd hp b none) b0 (some (.box (.agg (cs.set i (.sl kk es false))))),nx⟩:=by
 have hne:b0≠b:=λe=>by subst e;rw[h0]at hb;cases hb
 refine ao.give b rfl (λu=>.inr aZ.refl) (λb' x hx'=>?_) (by show hp b≠none;rw[hb];simp);have hx':upd (upd hp b none) b0 (some (.box (.agg (cs.set i (.sl kk es false))))) b'=some x:=hx'
 by_cases e:b'=b0
 ·subst e;rw[ak]at hx';cases hx';exact⟨hne,.inr ⟨_,_,h0,rfl,rfl,aZ.agg (cM.set hi (aZ.vec hb hx))⟩⟩
 ·rw[ai _ _ e]at hx'
  by_cases e':b'=b
  ·subst e';rw[ak]at hx';cases hx'
  ·rw[ai _ _ e']at hx';exact⟨e',.inl hx'⟩
theorem ao.subT{y:AV}(t:Nat)(h:Sub (tm t) y):ao k n ⟨tm,hp,nx⟩ ⟨upd tm t y,hp,nx⟩:=by
 refine ao.sub (λu=>?_) rfl rfl;show Sub (tm u) (upd tm t y u)
 by_cases e:u=t
 ·subst e;rw[ak];exact h
 ·rw[ai _ _ e];exact Sub.refl
theorem bX.set{y:AV}:∀{cs:List AV} {i:Nat} {x:AV},cs[i]?=some x→Sub x y→bX cs (cs.set i y)
 | [],i,x,h,_=>by simp at h
 | c::cs,0,x,h,g=>by simp at h;subst h;exact⟨g,bX.refl⟩
 | c::cs,i+1,x,h,g=>⟨Sub.refl,bX.set (by simpa using h) g⟩
theorem ao.subB{x y:AV}(b0:Nat)(h0:hp b0=some (.box x))(h:Sub x y)(hy:y.solid=true):ao k n ⟨tm,hp,nx⟩ ⟨tm,upd hp b0 (some (.box y)),nx⟩:=by
 rintro P c a w ⟨h1,A,μ,H⟩;obtain⟨hd,q1,⟨q2,q3,v,ty,q4,q5⟩,q6⟩:=H.blk b0 _ h0;have back:∀b z,upd hp b0 (some (.box y)) b=some z→∃z',hp b=some z':=by
  intro b z hz
  by_cases e:b=b0
  ·subst e;exact⟨_,h0⟩
  ·rw[ai _ _ e]at hz;exact⟨z,hz⟩
 refine⟨h1,A,μ,⟨H.tm,H.n,H.df,λb z hz=>?_,λb b' z z' hd1 hd2 hz hz'=>?_,H.lt,λb hb=>?_,H.keep,H.A0,H.A1,H.mu⟩⟩
 ·have hz:upd hp b0 (some (.box y)) b=some z:=hz
  by_cases e:b=b0
  ·subst e;rw[ak]at hz;cases hz;exact⟨hd,q1,⟨q2,hy,v,ty,h _ _ _ _ q4,q5⟩,q6⟩
  ·rw[ai _ _ e]at hz;exact H.blk b z hz
 ·obtain⟨_,g⟩:=back _ _ hz;obtain⟨_,g'⟩:=back _ _ hz';exact H.inj _ _ _ _ _ _ g g'
 ·have:μ b=none∧hp b=none:=H.fr b hb;refine⟨this.1,?_⟩;show upd hp b0 (some (.box y)) b=none
  by_cases e:b=b0
  ·subst e;rw[h0]at this;cases this.2
  ·rw[ai _ _ e];exact this.2
theorem AWP.seqW{x y:AC}{Q:X→S3→Prop}{s:S3}(st:S3)(h:AWP P k n x (oB (λs=>ao k n s st) Q) s)(h':AWP P k n y Q st):AWP P k n (.seq x y) Q s:=
 AWP.seqI (λs=>ao k n s st) h λ_ hw=>AWP.weak hw h'
theorem Sub.nil{kk:Nat}:Sub (.sl 0 [] true) (.sl kk [] false):=Sub.sl (.inr rfl) (by simp)
theorem Sub.full{kk:Nat}{es:List AV}{full:Bool}:Sub (.sl kk es full) (.sl kk es false):=Sub.sl (.inl rfl) (by simp)
end
end Go.Am
namespace Go.Am
section
variable {P : Program} {k n : Nat} {tm : Nat → AV} {hp : Hp} {nx : Nat} {fid : FuncId}
theorem sW{d:Option Nat}{g:AO}{xs:List AO}{os:List aA}{f:Nat}{K:S2→Nat→Prop}{caps args args':List AV}{v:AV}(foot:List Nat)
  (hs:bT P fid args' v) (hf:iK P fid) (hg:evO tm g=.func fid caps) (hx:xs.map (evO tm)++caps=args) (hv:lb foot hp args args') (hr:v.flat) (hK:evT P n os (f+16) ⟨aH d v tm,hp⟩ K) :
  evT P n (⟨d,.call g xs,none⟩::os) f ⟨tm,hp⟩ K:=
 dz hg hx (aN.lend hf hs hv hr) (by rw[kQ];exact hK)
end
end Go.Am
namespace Go.Am
theorem RV.int{w:World}{A:Nat→Prop}{k:IntKind}{n:Int}(h:(Lit.int k n).wf=true):RV w A (.val (.int k n)) eK (.int k n):=⟨rfl,by simpa[Lit.wf,az,inK]using h⟩
end Go.Am
namespace Go.Am
set_option linter.defProp false
def stepD:=(B' (B' (B' (B' (B' (B' (B' @evA.eq_1 (B' @evA.eq_2 @evA.eq_3)) (B' @evA.eq_4 (B' @evA.eq_5 @evA.eq_6))) (B' (B' @evA.eq_7 (B' @evA.eq_8 @evA.eq_9)) (B' @evA.eq_10 (B' @evA.eq_11 @evA.eq_12)))) (B' (B' (B' @evA.eq_13 (B' @evA.eq_14 @evA.eq_15)) (B' @evA.eq_16 (B' @evA.eq_17 @evA.eq_18))) (B' (B' @evA.eq_19 (B' @evA.eq_20 @evA.eq_21)) (B' @evA.eq_22 (B' @evA.eq_23 @evA.eq_24))))) (B' (B' (B' (B' @evA.eq_25 (B' @evA.eq_26 @evA.eq_27)) (B' @evA.eq_28 (B' @evA.eq_29 @evA.eq_30))) (B' (B' @evA.eq_31 (B' @evA.eq_32 @evA.eq_33)) (B' @evA.eq_34 (B' @evA.eq_35 @evA.eq_36)))) (B' (B' (B' @evA.eq_37 (B' @evA.eq_38 @evA.eq_39)) (B' @evA.eq_40 (B' @evA.eq_41 @bH.eq_1))) (B' (B' @dp.eq_1 (B' @dp.eq_2 @dp.eq_3)) (B' @dp.eq_4 (B' @dp.eq_5 @dp.eq_6)))))) (B' (B' (B' (B' (B' @dp.eq_7 (B' @dp.eq_8 @dp.eq_9)) (B' @dp.eq_10 (B' @dp.eq_11 @dp.eq_12))) (B' (B' @dp.eq_13 (B' @dp.eq_14 @dp.eq_15)) (B' @dp.eq_16 (B' @dp.eq_17 @dp.eq_18)))) (B' (B' (B' @dp.eq_19 (B' @dp.eq_20 @dp.eq_21)) (B' @dp.eq_22 (B' @dp.eq_23 @dp.eq_24))) (B' (B' @dp.eq_25 (B' @dp.eq_26 @unA.eq_1)) (B' @unA.eq_2 (B' @unA.eq_3 @iw.eq_1))))) (B' (B' (B' (B' @iw.eq_2 (B' @iw.eq_3 @iw.eq_4)) (B' @rdH.eq_1 (B' @bi.eq_1 @bi.eq_2))) (B' (B' @bi.eq_3 (B' @bi.eq_4 @bi.eq_5)) (B' @bi.eq_6 (B' @bi.eq_7 @bi.eq_8)))) (B' (B' (B' @bi.eq_9 (B' @bi.eq_10 @bi.eq_11)) (B' @bi.eq_12 (B' @bi.eq_13 @bi.eq_14))) (B' (B' @bi.eq_15 (B' @bi.eq_16 @bi.eq_17)) (B' @bi.eq_18 (B' @Oz.eq_1 @AOp.opers.eq_1))))))) (B' (B' (B' (B' (B' (B' @AOp.opers.eq_2 (B' @AOp.opers.eq_3 @AOp.opers.eq_4)) (B' @AOp.opers.eq_5 (B' @AOp.opers.eq_6 @AOp.opers.eq_7))) (B' (B' @AOp.opers.eq_8 (B' @AOp.opers.eq_9 @AOp.opers.eq_10)) (B' @AOp.opers.eq_11 (B' @AOp.opers.eq_12 @AOp.opers.eq_13)))) (B' (B' (B' @AOp.opers.eq_14 (B' @AOp.opers.eq_15 @AOp.opers.eq_16)) (B' @AOp.opers.eq_17 (B' @AOp.opers.eq_18 @AOp.opers.eq_19))) (B' (B' @AOp.opers.eq_20 (B' @AOp.opers.eq_21 @AOp.opers.eq_22)) (B' @AOp.opers.eq_23 (B' @AOp.opers.eq_24 @AOp.opers.eq_25))))) (B' (B' (B' (B' @AOp.opers.eq_26 (B' @AOp.opers.eq_27 @AOp.opers.eq_28)) (B' @AOp.opers.eq_29 (B' @AOp.opers.eq_30 @AOp.opers.eq_31))) (B' (B' @AOp.opers.eq_32 (B' @AOp.opers.eq_33 @AOp.opers.eq_34)) (B' @AOp.opers.eq_35 (B' @AOp.opers.eq_36 @AOp.opers.eq_37)))) (B' (B' (B' @AOp.opers.eq_38 (B' @AOp.opers.eq_39 @AOp.opers.eq_40)) (B' @AOp.opers.eq_41 (B' @aL.eq_1 @aL.eq_2))) (B' (B' @aL.eq_3 (B' @aL.eq_4 @aL.eq_5)) (B' @aL.eq_6 (B' @cZ.eq_1 @fP.eq_1)))))) (B' (B' (B' (B' (B' @lK.eq_1 (B' @eS.eq_1 @AV.solid.eq_1)) (B' @AV.solid.eq_2 (B' @AV.solid.eq_3 @AV.cells.eq_1))) (B' (B' @AV.cells.eq_2 (B' @AV.isAgg.eq_1 @AV.isAgg.eq_2)) (B' @iN.eq_1 (B' @qd.eq_1 @Fu.eq_1)))) (B' (B' (B' @iZ.eq_1 (B' @iZ.eq_2 @iZ.eq_3)) (B' @iZ.eq_4 (B' @iZ.eq_5 @sliceA.eq_1))) (B' (B' @sliceA.eq_2 (B' @sliceA.eq_3 @sliceA.eq_4)) (B' @sliceA.eq_5 (B' @cz.eq_1 @cz.eq_2))))) (B' (B' (B' (B' @bS.eq_1 (B' @bS.eq_2 @bS.eq_3)) (B' @bS.eq_4 (B' @bS.eq_5 @lH.eq_1))) (B' (B' @lH.eq_2 (B' @lH.eq_3 @sk.eq_1)) (B' @pS.eq_1 (B' @o5.eq_1 @AV.pure.eq_1)))) (B' (B' (B' @AV.pure.eq_2 (B' @AV.pure.eq_3 @AV.pure.eq_4)) (B' @AV.pure.eq_5 (B' @AV.pure.eq_6 @AV.pure.eq_7))) (B' (B' @AV.pure.eq_8 (B' @AV.pure.eq_9 @AV.pure.eq_10)) (B' (B' @AV.pure.eq_11 @AV.pure.eq_12) (B' @aD.eq_1 @aD.eq_2))))))))
def stepM:=B' @cb'.{0} (B' @List.set_cons_succ.{0} (B' @Option.isSome_some.{0} (B' @List.replicate.eq_1.{0} (B' @List.replicate.eq_2.{0} (B' @u'.{0,0} (B' @Int.toNat_natCast (B' @Jm (B' @C7 (B' @Pv @K9)))))))))
def ag:=B' @stepS (B' @stepD (B' @stepM (B' @eq_self.{1} (B' @implies_true.{1} (B' @implies_true.{0} (B' @forall_eq_or_imp.{1} @forall_eq.{1}))))))
end Go.Am
