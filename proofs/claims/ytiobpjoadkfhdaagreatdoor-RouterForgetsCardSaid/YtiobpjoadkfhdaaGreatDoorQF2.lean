/- Texts joined: AmB AmC Ld. -/
import Derived.Orders
import Derived.Below
import Derived.Lib.Overlaps
import Derived.ChangeArms
import Derived.LaidLaws
import Derived.Handed
import Derived.FnData
import Derived.ChangeShapes
import Derived.Test.YtiobpjoadkfhdaaGreatDoorQF1
set_option linter.unusedVariables false
set_option linter.unusedSimpArgs false
set_option linter.unusedSectionVars false
namespace Go.Am
def AOp.opers:AOp→List AO
 | .move x|.box x|.load _ _ x|.nilc x|.un _ x|.convI _ x|.convBS x|.convS x|.convSB x|.faddr _ x|.field _ _ _ x|.ext _ x|.len x|.lenS x|.cap x|.clear _ _ x|.isNil _ _ x|.mkI _ x|.asrt _ _ x|.mlen x|.rng x|.nxt x|.ent x=>[x]
 | .pick c a b=>[c,a,b]
 | .build _ ps=>ps.map (·.2.2)
 | .lit _ _ _ ps=>ps.map (·.2)
 | .store _ a x|.bin _ a x|.binB _ a x|.eqs _ _ a x|.mks _ _ _ a x|.iaddr _ a x|.iaddrA _ _ a x|.indexA _ _ _ a x|.indexS a x|.append _ _ a x|.appendS _ a x|.copy _ a x|.appendZ _ _ _ a x|.mget _ _ _ a x|.mdel _ a x=>[a,x]
 | .mset _ a b x=>[a,b,x]
 | .mkm _=>[]
 | .mkf _ cs=>cs
 | .sliceS x lo hi|.sliceA _ _ x lo hi=>x::lo.toList++hi.toList
 | .slice _ x lo hi mx=>x::lo.toList++hi.toList++mx.toList
 | .min xs|.max xs=>xs
 | .call g xs=>g::xs
 | .bad=>[]
def bi:AV→List Nat
 | .ref b _|.eref b _ _|.vec b|.vsub b _ _|.asub b _ _ _|.mref b=>[b]
 | _=>[]
theorem zS{hp hp':Hp}{x:AV}(h:∀b∈bi x,hp b=hp' b):je hp x=je hp' x:=by
 cases x<;>simp_all [je,bi]
theorem pI{hp hp':Hp}{x:AV}(h:∀b∈bi x,hp b=hp' b):rh hp x=rh hp' x:=by
 cases x<;>simp_all [rh,bi]
theorem pb{hp hp':Hp}{k:Nat}{x:AV}(h:∀b∈bi x,hp b=hp' b):kK hp k x=kK hp' k x:=by
 cases x<;>simp_all [kK,bi]
theorem iG{hp hp':Hp}{k:Nat}{x:AV}{lo hi mx:Option Int}(h:∀b∈bi x,hp b=hp' b):sliceA hp k x lo hi mx=sliceA hp' k x lo hi mx:=by
 cases x<;>simp_all [sliceA,bi]
theorem pr{hp hp':Hp}{f k:Nat}{x:AV}{i:Int}(h:∀b∈bi x,hp b=hp' b):bV hp f k x i=bV hp' f k x i:=by
 unfold bV
 grind [iG,bi]
theorem AW{hp hp':Hp}{f k:Nat}{x:AV}{i m:Int}(h:∀b∈bi x,hp b=hp' b):lp hp f k x i m=lp hp' f k x i m:=by
 unfold lp
 grind [iG,bi]
theorem yX{hp hp':Hp}{k:Nat}{x:AV}(h:∀b∈bi x,hp b=hp' b):tv hp k x=tv hp' k x:=by
 have e:=pb (k:=k) h;cases x with
 | vsub b lo n =>
  have hb:=h b (by simp[bi]);simp only[tv,hb,e]
 | _=>simp only[tv,e]
theorem xN{hp hp':Hp}{k:Nat}{d:AV}{src:Option (Nat×List AV)}(h:∀b∈bi d,hp b=hp' b):qp hp k d src=qp hp' k d src:=by
 unfold qp
 grind [bi]
theorem uF{hp hp':Hp}{k:Nat}{z d:AV}(h:∀b∈bi d,hp b=hp' b):jB hp k z d=jB hp' k z d:=by
 unfold jB;cases d<;>simp_all [bi]
theorem qP{hp hp':Hp}{f k b:Nat}{z s n:AV}(h:∀b∈bi s,hp b=hp' b):eP hp f k b z s n=eP hp' f k b z s n:=by
 cases s with
 | vsub b lo i =>
  have hb:=h b (by simp[bi]);unfold eP
  split
  ·simp_all
  ·rfl
  ·rfl
 | sl k es full =>
  unfold eP
  split
  ·rename_i e;cases e
  ·rfl
  ·rfl
 | _=>rfl
theorem kI{hp hp':Hp}{f k b:Nat}{s:AV}{src:Option (List AV)}(h:∀b∈bi s,hp b=hp' b):dP hp f k b s src=dP hp' f k b s src:=by
 unfold dP
 grind [bi]
theorem Fp{op:AOp}{f:Nat}{ρ ρ':AO→AV}{hp hp':Hp}(h:∀x∈op.opers,ρ x=ρ' x)(hh:∀x∈op.opers,∀b∈bi (ρ x),hp b=hp' b):evA op f ρ hp=evA op f ρ' hp':=by
 cases op with
 | build z ps =>
  have:ps.map (λp=>(p.1,p.2.1,ρ p.2.2))=ps.map (λp=>(p.1,p.2.1,ρ' p.2.2)):=aE' λp hp=>by rw[h p.2.2 (R'.2 ⟨p,hp,rfl⟩)]
  simp only[evA,this]
 | lit k n z ps =>
  have:ps.map (λp=>(p.1,ρ p.2))=ps.map (λp=>(p.1,ρ' p.2)):=aE' λp hp=>by rw[h p.2 (R'.2 ⟨p,hp,rfl⟩)]
  simp only[evA,this]
 | mkf g cs =>
  have:cs.map ρ=cs.map ρ':=aE' h;simp only[evA,this]
 | min xs =>
  have:xs.map ρ=xs.map ρ':=aE' h;simp only[evA,this]
 | max xs =>
  have:xs.map ρ=xs.map ρ':=aE' h;simp only[evA,this]
 | sliceS x lo hi =>
  simp only[AOp.opers,P',L',Option.mem_toList]at h;have h1:=h x (by simp);have h2:lo.map ρ=lo.map ρ':=by cases lo with|none=>rfl|some y=>rw[ah',ah',h y (by simp)]
  have h3:hi.map ρ=hi.map ρ':=by cases hi with|none=>rfl|some y=>rw[ah',ah',h y (by simp)]
  simp only[evA,h1,h2,h3]
 | sliceA n k x lo hi =>
  simp only[AOp.opers,P',L',Option.mem_toList]at h;have h1:=h x (by simp);have h2:lo.map ρ=lo.map ρ':=by cases lo with|none=>rfl|some y=>rw[ah',ah',h y (by simp)]
  have h3:hi.map ρ=hi.map ρ':=by cases hi with|none=>rfl|some y=>rw[ah',ah',h y (by simp)]
  simp only[evA,h1,h2,h3]
 | slice k x lo hi mx =>
  have hx:=hh x (by simp[AOp.opers]);simp only[AOp.opers,P',L',Option.mem_toList]at h;have h1:=h x (by simp);have h2:lo.map ρ=lo.map ρ':=by cases lo with|none=>rfl|some y=>rw[ah',ah',h y (by simp)]
  have h3:hi.map ρ=hi.map ρ':=by cases hi with|none=>rfl|some y=>rw[ah',ah',h y (by simp)]
  have h4:mx.map ρ=mx.map ρ':=by cases mx with|none=>rfl|some y=>rw[ah',ah',h y (by simp)]
  rw[h1]at hx;simp only[evA,h1,h2,h3,h4,iG hx,pr hx,AW hx]
 | cap x =>
  have hx:=hh x (by simp[AOp.opers]);have h1:=h x (by simp[AOp.opers]);rw[h1]at hx;simp only[evA,h1];generalize ρ' x=X at hx;cases X with
  | vec b=>simp only[hx b (by simp[bi])]
  | sl k es full=>cases full<;>rfl
  | _=>rfl
 | copy k s x =>
  have hs:=hh s (by simp[AOp.opers]);have hx:=hh x (by simp[AOp.opers]);have h1:=h s (by simp[AOp.opers]);have h2:=h x (by simp[AOp.opers]);rw[h1]at hs;rw[h2]at hx;simp only[evA,h1,h2,xN hs,yX hx]
 | clear k z x =>
  have hx:=hh x (by simp[AOp.opers]);have h1:=h x (by simp[AOp.opers]);rw[h1]at hx;simp only[evA,h1,uF hx]
 | appendZ k b z s x =>
  have hs:=hh s (by simp[AOp.opers]);have h1:=h s (by simp[AOp.opers]);have h2:=h x (by simp[AOp.opers]);rw[h1]at hs;simp only[evA,h1,h2,qP hs]
 | len x =>
  have hx:=hh x (by simp[AOp.opers]);have h1:=h x (by simp[AOp.opers]);rw[h1]at hx;simp only[evA,h1,zS hx]
 | mlen x =>
  have hx:=hh x (by simp[AOp.opers]);have h1:=h x (by simp[AOp.opers]);rw[h1]at hx;simp only[evA,h1,pI hx]
 | mget kk z ok x y =>
  have hx:=hh x (by simp[AOp.opers]);have h1:=h x (by simp[AOp.opers]);have h2:=h y (by simp[AOp.opers]);rw[h1]at hx;simp only[evA,h1,h2,pI hx]
 | mset kk x y v =>
  have hx:=hh x (by simp[AOp.opers]);have h1:=h x (by simp[AOp.opers]);have h2:=h y (by simp[AOp.opers]);have h3:=h v (by simp[AOp.opers]);rw[h1]at hx;simp only[evA,h1,h2,h3];generalize ρ' x=X at *
  cases X with
  | mref b=>simp only[hx b (by simp[bi])]
  | _=>rfl
 | mdel kk x y =>
  have hx:=hh x (by simp[AOp.opers]);have h1:=h x (by simp[AOp.opers]);have h2:=h y (by simp[AOp.opers]);rw[h1]at hx;simp only[evA,h1,h2];generalize ρ' x=X at *
  cases X with
  | mref b=>simp only[hx b (by simp[bi])]
  | _=>rfl
 | append k b s x =>
  have hs:=hh s (by simp[AOp.opers]);have hx:=hh x (by simp[AOp.opers]);have h1:=h s (by simp[AOp.opers]);have h2:=h x (by simp[AOp.opers]);rw[h1]at hs;rw[h2]at hx;simp only[evA,h1,h2,kI hs,pb hx]
 | appendS b s x =>
  have hs:=hh s (by simp[AOp.opers]);have h1:=h s (by simp[AOp.opers]);have h2:=h x (by simp[AOp.opers]);rw[h1]at hs;simp only[evA,h1,h2,kI hs]
 | load agg size x =>
  have hx:=hh x (by simp[AOp.opers]);have h1:=h x (by simp[AOp.opers]);rw[h1]at hx;simp only[evA,h1];generalize ρ' x=X at *
  cases X<;>simp_all [bi]
 | store size x y =>
  have hx:=hh x (by simp[AOp.opers]);have h1:=h x (by simp[AOp.opers]);have h2:=h y (by simp[AOp.opers]);rw[h1]at hx;simp only[evA,h1,h2];generalize ρ' x=X at *
  cases X<;>simp_all [bi]
 | convBS x =>
  have hx:=hh x (by simp[AOp.opers]);have h1:=h x (by simp[AOp.opers]);rw[h1]at hx;simp only[evA,h1];generalize ρ' x=X at *
  cases X with
  | vec b=>simp only[hx b (by simp[bi])]
  | asub b o n k =>
   have e:i9 hp b=i9 hp' b:=by grind [i9,bi]
   match k with
   | 0=>rfl
   | 1=>simp only[e]
   | k+2=>rfl
  | sl k es full =>
   match k with
   | 0=>rfl
   | 1=>rfl
   | k+2=>rfl
  | _=>rfl
 | iaddr k x i =>
  have hx:=hh x (by simp[AOp.opers]);have h1:=h x (by simp[AOp.opers]);have h2:=h i (by simp[AOp.opers]);rw[h1]at hx;simp only[evA,h1,h2];generalize ρ' x=X at *
  cases X<;>simp_all [bi]
 | _=>simp only[AOp.opers,P',aq',or_false,forall_eq_or_imp,forall_eq]at h<;>simp only[evA,h]
abbrev Eff:=Nat→Option (Option Blk)
def cu(e:Eff)(hp:Hp):Hp:=λb=>match e b with|some x=>x|none=>hp b
def cY:Eff:=λ_=>none
theorem xe(hp:Hp):cu cY hp=hp:=rfl
def fE(o:Out):Eff:=λb=>match o.ad with
 | some (f,x)=>if b=f then some (some x)else if o.rm=some b then some none else none
 | none=>if o.rm=some b then some none else none
theorem dh(o:Out)(hp:Hp):cu (fE o) hp=bQ o hp:=by
 funext b
 unfold cu fE bQ;cases o.ad with
 | none =>
  cases o.rm with
  | none=>simp
  | some r =>
   by_cases h:b=r
   ·grind [upd]
   ·grind [upd]
 | some p =>
  obtain⟨f,x⟩:=p
  by_cases hf:b=f
  ·simp[upd,hf]
  ·cases o.rm with
   | none=>simp[upd,hf]
   | some r =>
    by_cases h:b=r
    ·grind [upd]
    ·grind [upd]
def gX(P:Program)(n:Nat)(o:Oper)(f:Nat)(tm:Nat→AV)(hp:Hp)(rd:List Nat)(v:AV)(e:Eff):Prop:=
 ∀(c:Ctx) (A:Nat→Prop) (μ:Mu) (fr:Nat→Prop) (tm':Nat→AV) (hp':Hp) (a:Act) (w:World) (K:Act→World→Prop) (Q:Exit→Act→World→Prop),
  aA P c A μ fr tm' hp' n a w→(∀t,AO.t t∈(cOp P o.op o.type).opers→tm' t=tm t)→(∀b∈rd,hp' b=hp b)→(∀j,j<16→fr (f+j)) →
  (∀a' w' A' μ',aA P c A' μ' (λb=>fr b∧¬(f≤b∧b<f+16)) (aO o.dst v tm') (cu e hp') n a' w'→K a' w')→o.wp P a w K Q
def RA(op:AOp)(tm:Nat→AV):List Nat:=op.opers.flatMap λx=>bi (evO tm x)
theorem BP{P:Program}{n:Nat}{o:Oper}{f:Nat}{tm:Nat→AV}{hp:Hp}(hd:∀d,o.dst=some d→d<n)(hc:(evA (cOp P o.op o.type) f (evO tm) hp).c) :
  gX P n o f tm hp (RA (cOp P o.op o.type) tm) (evA (cOp P o.op o.type) f (evO tm) hp).v (fE (evA (cOp P o.op o.type) f (evO tm) hp)):=by
 intro c A μ fr tm' hp' a w K Q H h1 h2 h3 hK;have hev:∀x∈(cOp P o.op o.type).opers,evO tm' x=evO tm x:=by
  intro x hx;cases x with
  | t t=>exact h1 t hx
  | c x=>rfl
 have heq:evA (cOp P o.op o.type) f (evO tm') hp'=evA (cOp P o.op o.type) f (evO tm) hp:=by
  refine Fp hev λx hx b hb=>h2 b ?_;rw[hev x hx]at hb;exact bQ'.2 ⟨x,hx,hb⟩
 rw[←heq]at hc hK;obtain⟨cv,w',A',μ',e1,e2,e3⟩:=Fo o H (by simpa using h3 0 (by omega)) hc;have hrel:aA P c A' μ' (λb=>fr b∧¬(f≤b∧b<f+16)) (aO o.dst (evA (cOp P o.op o.type) f (evO tm') hp').v tm') (cu (fE (evA (cOp P o.op o.type) f (evO tm') hp')) hp') n (a.put o.dst cv) w':=by
  rw[dh];have:=(e2.free (fr':=λb=>fr b∧¬(f≤b∧b<f+16)) λb hb=>⟨hb.1,λe=>hb.2 (by omega)⟩).put o.dst hd e3;exact this
 unfold Oper.wp
 rcases e1 with e1|⟨e1,rfl⟩
 ·grind [Oper.upon_value]
 ·grind [Oper.upon_skip]
theorem nW{ptr:Bool}{y:Operand}(h:pO ptr y=true):∃v,y=.const v∧((ptr=false∧∃n c,v=.slice none n c)∨(ptr=true∧v=.pointer none)):=by
 unfold pO at h
 grind
theorem sW{P:Program}{ptr ptr' ne:Bool}{op:BinOp}{x y:Operand}{x':AO}(h:iT P ptr op x y=.isNil ptr' ne x'):ptr'=ptr∧x'=cO P x∧op=(if ne then .neq else .eql)∧pO ptr y=true:=by
 unfold iT at h
 grind
theorem FN{P:Program}{op:Op}{ty:TypeId}{ptr ne:Bool}{x:AO}(ho:cOp P op ty=.isNil ptr ne x) :
  ∃b t x' v yt e,op=.binOp b t x' (.const v) yt∧x=cO P x'∧b=(if ne then .neq else .eql)∧((ptr=false∧P.underlying t=some (.slice e)∧∃n c,v=.slice none n c)∨(ptr=true∧P.underlying t=some (.pointer e)∧v=.pointer none)):=by
 cases op with
 | call c =>
  obtain⟨callee,args,ts⟩:=c;cases callee with
  | value g'=>simp only[cOp,dv]at ho;cases ho
  | invoke r m=>simp[cOp,dv]at ho
  | builtin b =>
   simp only[cOp,dv]at ho
   (repeat' split at ho)<;>cases ho
 | makeFunc fn first captured =>
  cases fn<;>simp only[cOp]at ho<;>(repeat' split at ho)<;>cases ho
 | makeMap t r=>cases r<;>simp only[cOp]at ho<;>(repeat' split at ho)<;>cases ho
 | typeAssert x' st t ok=>cases ok<;>simp only[cOp]at ho<;>(repeat' split at ho)<;>cases ho
 | next x' b=>cases b<;>simp only[cOp]at ho<;>cases ho
 | binOp op t x' y yt =>
  simp only[cOp]at ho
  split at ho
  ·grind
  ·cases ho
  ·cases ho
  ·cases ho
  ·rename_i e hu;obtain⟨rfl,h2,h3,h4⟩:=sW ho;obtain⟨v,rfl,h5⟩:=nW h4;refine⟨op,t,x',v,yt,e,rfl,h2,h3,.inl ?_⟩
   simp_all
  ·rename_i e hu;obtain⟨rfl,h2,h3,h4⟩:=sW ho;obtain⟨v,rfl,h5⟩:=nW h4
   grind
  ·cases ho
 | _=>simp only[cOp,kH]at ho<;>(repeat' split at ho)<;>cases ho
theorem ME{P:Program}{n:Nat}{o:Oper}{tm:Nat→AV}{hp:Hp}{ptr ne:Bool}{x:AO}(ho:cOp P o.op o.type=.isNil ptr ne x)(hd:∀d,o.dst=some d→d<n)(hok:mc ptr (evO tm x))
  {c:Ctx} {A:Nat→Prop} {μ:Mu} {fr:Nat→Prop} {a:Act} {w:World} {K:Act→World→Prop} {Q:Exit→Act→World→Prop} (H:aA P c A μ fr tm hp n a w)
  (hK:∀t,tW hp (evO tm x) t→∀a',aA P c A μ fr (aO o.dst (.bool (t != ne)) tm) hp n a' w→K a' w):o.wp P a w K Q:=by
 obtain⟨b,t,x',v,yt,e,h1,rfl,h3,h4⟩:=FN ho;obtain⟨tt,g1,g2⟩:=Cs (P:=P) (T:=t) (e:=e) (op:=b) (y:=v) h3 h4 H (H.ev x') hok;have hg:(eqGuard b t x' (.const v) (a.eval x') (a.eval (.const v))).run P w=.ok () w:=by
  have hv:a.eval (.const v)=v:=rfl;rw[hv];subst h3;rcases h4 with⟨_,_,n',c',rfl⟩|⟨_,_,rfl⟩<;>(unfold eqGuard;cases ne<;>cases a.eval x'<;>rfl)
 have he:(execOp a.eval o).run P w=.ok (.value (.bool (tt != ne))) w:=by
  unfold execOp;rw[h1];simp only[Sem.run_bind,hg,Result.andThen_ok];rw[show a.eval (.const v)=v from rfl,g2];rfl
 unfold Oper.wp;rw[he,Oper.upon_value];exact hK tt g1 _ (H.put o.dst hd (cK _))
theorem Ls{P:Program}{ptr:Bool}{op:BinOp}{x y:Operand}{k n:Nat}{z:AV}{ps:List (Nat×AO)}(h:iT P ptr op x y=.lit k n z ps):False:=by
 unfold iT at h
 grind
theorem P0{P:Program}{op:Op}{ty:TypeId}{k N:Nat}{z:AV}{ps:List (Nat×AO)}(ho:cOp P op ty=.lit k N z ps) :
  ∃t parts e,op=.buildSlice t N parts∧P.underlying t=some (.slice e)∧sizeOf? P e=some k∧cn P e=some z∧(0<k∧z.solid=true∧z.cells.length=k∧N * k≤2 ^ 24)∧ps=parts.toList.map λ(i,x)=>(i,cO P x):=by
 cases op with
 | call c =>
  obtain⟨callee,args,ts⟩:=c;cases callee with
  | value g'=>simp only[cOp,dv]at ho;cases ho
  | invoke r m=>simp[cOp,dv]at ho
  | builtin b =>
   simp only[cOp,dv]at ho
   (repeat' split at ho)<;>cases ho
 | makeFunc fn first captured =>
  cases fn<;>simp only[cOp]at ho<;>(repeat' split at ho)<;>cases ho
 | makeMap t r=>cases r<;>simp only[cOp]at ho<;>(repeat' split at ho)<;>cases ho
 | typeAssert x' st t ok=>cases ok<;>simp only[cOp]at ho<;>(repeat' split at ho)<;>cases ho
 | next x' b=>cases b<;>simp only[cOp]at ho<;>cases ho
 | binOp op t x' y yt =>
  simp only[cOp]at ho
  (repeat' split at ho)<;>first|exact(Ls ho).elim|cases ho
 | buildSlice t N' parts =>
  simp only[cOp]at ho;split at ho
  case h_2=>cases ho
  rename_i e hu;split at ho
  case h_2=>cases ho
  rename_i k' z' hs hz;split at ho
  case isFalse=>cases ho
  rename_i hk;cases ho;exact⟨t,parts,e,rfl,hu,hs,hz,hk,rfl⟩
 | _=>simp only[cOp,kH]at ho<;>(repeat' split at ho)<;>cases ho
theorem Qj{P:Program}{n:Nat}{o:Oper}{f:Nat}{tm:Nat→AV}{hp:Hp}{k N:Nat}{z:AV}{ps:List (Nat×AO)}(ho:cOp P o.op o.type=.lit k N z ps)(hd:∀d,o.dst=some d→d<n)(hc:(evL k N z ps f (evO tm)).c) :
  gX P n o f tm hp [] (evL k N z ps f (evO tm)).v (fE (evL k N z ps f (evO tm))):=by
 intro c A μ fr tm' hp' a w K Q H h1 h2 h3 hK;rw[ho]at h1;have hev:∀x∈(AOp.lit k N z ps).opers,evO tm' x=evO tm x:=by
  intro x hx;cases x with
  | t t=>exact h1 t hx
  | c x=>rfl
 have heq:evL k N z ps f (evO tm')=evL k N z ps f (evO tm):=by
  have:ps.map (λp=>(p.1,evO tm' p.2))=ps.map (λp=>(p.1,evO tm p.2)):=aE' λp hp=>by rw[hev p.2 (R'.2 ⟨p,hp,rfl⟩)]
  simp only[evL,this]
 rw[←heq]at hc hK;obtain⟨t,parts,e,g1,g2,g3,g4,g5,rfl⟩:=P0 ho;have hdo:=cd.next (Fz (P:=P) (a:=a) g2 g3 g4 g5 H (by simpa using h3 0 (by omega)) hc);obtain⟨cv,w',A',μ',e1,e2,e3⟩:=hdo;have hrel:aA P c A' μ' (λb=>fr b∧¬(f≤b∧b<f+16)) (aO o.dst (evL k N z (parts.toList.map λ(i,x)=>(i,cO P x)) f (evO tm')).v tm') (cu (fE (evL k N z (parts.toList.map λ(i,x)=>(i,cO P x)) f (evO tm'))) hp') n (a.put o.dst cv) w':=by
  rw[dh];exact(e2.free (fr':=λb=>fr b∧¬(f≤b∧b<f+16)) λb hb=>⟨hb.1,λe=>hb.2 (by omega)⟩).put o.dst hd e3
 have hex:execOp a.eval o=(do pure (.value (←Instr.buildSlice t N (parts.map λ(i,x)=>(i,a.eval x))))):=by grind [execOp]
 rw[←hex]at e1;unfold Oper.wp
 rcases e1 with e1|⟨e1,rfl⟩
 ·grind [Oper.upon_value]
 ·grind [Oper.upon_skip]
def kAV:MK→AV
 | .n i=>.val (.int .i64 i)
 | .c l=>.agg (l.map λi=>.val (.int .i64 i))
def kOk:MK→Prop
 | .n i=>inK .i64 i
 | .c _=>False
theorem Jt{w:World}{A:Nat→Prop}{μ:Mu}{q:MK}(h:kOk q):RV w A (kAV q) μ q.v:=by
 cases q with
 | n i=>exact⟨rfl,h⟩
 | c l=>exact h.elim
theorem qJ{P:Program}{ptr:Bool}{op:BinOp}{x y z:Operand}{X:AO}(h:iT P ptr op x y=.rng X∨iT P ptr op x y=.nxt X∨iT P ptr op x y=.ent X):False:=by
 unfold iT at h
 grind
theorem Py{P:Program}{op:Op}{ty:TypeId}{x:AO}(ho:cOp P op ty=.rng x):∃t x' kt e,op=.range t x'∧P.underlying t=some (.map kt e)∧x=cO P x':=by
 cases op with
 | call c =>
  obtain⟨callee,args,ts⟩:=c;cases callee with
  | value g'=>simp only[cOp,dv]at ho;cases ho
  | invoke r m=>simp[cOp,dv]at ho
  | builtin b=>simp only[cOp,dv]at ho;(repeat' split at ho)<;>cases ho
 | makeFunc fn first captured=>cases fn<;>simp only[cOp]at ho<;>(repeat' split at ho)<;>cases ho
 | makeMap t r=>cases r<;>simp only[cOp]at ho<;>(repeat' split at ho)<;>cases ho
 | typeAssert x' st t ok=>cases ok<;>simp only[cOp]at ho<;>(repeat' split at ho)<;>cases ho
 | next x' b=>cases b<;>simp only[cOp]at ho<;>cases ho
 | binOp op t x' y yt =>
  simp only[cOp]at ho
  (repeat' split at ho)<;>first|exact(qJ (z:=x') (.inl ho)).elim|cases ho
 | range t x' =>
  simp only[cOp]at ho;split at ho
  case h_2=>cases ho
  rename_i kt e hu;split at ho
  case h_2=>cases ho
  cases ho;exact⟨t,x',kt,e,rfl,hu,rfl⟩
 | _=>simp only[cOp,kH]at ho<;>(repeat' split at ho)<;>cases ho
theorem Pz{P:Program}{op:Op}{ty:TypeId}{x:AO}(ho:cOp P op ty=.nxt x):∃x',op=.next x' false∧x=cO P x':=by
 cases op with
 | call c =>
  obtain⟨callee,args,ts⟩:=c;cases callee with
  | value g'=>simp only[cOp,dv]at ho;cases ho
  | invoke r m=>simp[cOp,dv]at ho
  | builtin b=>simp only[cOp,dv]at ho;(repeat' split at ho)<;>cases ho
 | makeFunc fn first captured=>cases fn<;>simp only[cOp]at ho<;>(repeat' split at ho)<;>cases ho
 | makeMap t r=>cases r<;>simp only[cOp]at ho<;>(repeat' split at ho)<;>cases ho
 | typeAssert x' st t ok=>cases ok<;>simp only[cOp]at ho<;>(repeat' split at ho)<;>cases ho
 | next x' b =>
  cases b<;>simp only[cOp]at ho<;>cases ho;exact⟨x',rfl,rfl⟩
 | binOp op t x' y yt =>
  simp only[cOp]at ho
  (repeat' split at ho)<;>first|exact(qJ (z:=x') (.inr (.inl ho))).elim|cases ho
 | _=>simp only[cOp,kH]at ho<;>(repeat' split at ho)<;>cases ho
theorem P1{P:Program}{op:Op}{ty:TypeId}{x:AO}(ho:cOp P op ty=.ent x):∃x',op=.entry x'∧x=cO P x':=by
 cases op with
 | call c =>
  obtain⟨callee,args,ts⟩:=c;cases callee with
  | value g'=>simp only[cOp,dv]at ho;cases ho
  | invoke r m=>simp[cOp,dv]at ho
  | builtin b=>simp only[cOp,dv]at ho;(repeat' split at ho)<;>cases ho
 | makeFunc fn first captured=>cases fn<;>simp only[cOp]at ho<;>(repeat' split at ho)<;>cases ho
 | makeMap t r=>cases r<;>simp only[cOp]at ho<;>(repeat' split at ho)<;>cases ho
 | typeAssert x' st t ok=>cases ok<;>simp only[cOp]at ho<;>(repeat' split at ho)<;>cases ho
 | next x' b=>cases b<;>simp only[cOp]at ho<;>cases ho
 | entry x'=>cases ho;exact⟨x',rfl,rfl⟩
 | binOp op t x' y yt =>
  simp only[cOp]at ho
  (repeat' split at ho)<;>first|exact(qJ (z:=x') (.inr (.inr ho))).elim|cases ho
 | _=>simp only[cOp,kH]at ho<;>(repeat' split at ho)<;>cases ho
theorem aA.mstBlk{P:Program}{c:Ctx}{A:Nat→Prop}{μ:Mu}{fr:Nat→Prop}{tm:Nat→AV}{hp:Hp}{n:Nat}{a:Act}{w:World}(H:aA P c A μ fr tm hp n a w){b ck:Nat}{kk:Option Nat}{ks:List MK}{vs:List AV}{st:List Nat}(hb:hp b=some (.mst kk ks vs st ck)) :
  ∃hd ents,μ b=some hd∧hd.emp=none∧w.heap[hd.blk]?=some (.map ents ck)∧co kk ks ents ck∧RVL w A vs μ (ents.toList.map (·.val))∧(∀x∈vs,x.solid=true)∧ents.toList.map (·.born)=st:=by
 obtain⟨hd,h1,⟨h2,ents,h3,h4,h5,h6,h7⟩,_⟩:=H.blk b _ hb;exact⟨hd,ents,h1,h2,h3,h4,h5,h6,h7⟩
theorem aA.itrBlk{P:Program}{c:Ctx}{A:Nat→Prop}{μ:Mu}{fr:Nat→Prop}{tm:Nat→AV}{hp:Hp}{n:Nat}{a:Act}{w:World}(H:aA P c A μ fr tm hp n a w){b m ck:Nat}{st seen:List Nat}(hb:hp b=some (.itr m st ck seen)) :
  ∃hd hm,μ b=some hd∧hd.emp=none∧μ m=some hm∧hm.emp=none∧w.heap[hd.blk]?=some (.mapIter (some hm.blk) ck seen.toArray ck):=by
 obtain⟨hd,h1,⟨h2,hm,h3,h4,h5⟩,_⟩:=H.blk b _ hb;exact⟨hd,hm,h1,h2,h3,h4,h5⟩
theorem MC{P:Program}{n:Nat}{o:Oper}{f:Nat}{tm:Nat→AV}{hp:Hp}{x:AO}{b ck:Nat}{kk:Option Nat}{ks:List MK}{vs:List AV}{st:List Nat}(ho:cOp P o.op o.type=.rng x)(hd:∀d,o.dst=some d→d<n)
    (hx:evO tm x=.mref b) (hb:hp b=some (.mst kk ks vs st ck)):gX P n o f tm hp [b] (.ref f 0) (fE { c:=True,v:=.ref f 0,ad:=some (f,.itr b st ck []) }):=by
  intro c A μ fr tm' hp' a w K Q H h1 h2 h3 hK;obtain⟨t,x',kt,e,g1,g2,rfl⟩:=Py ho;have hev:evO tm' (cO P x')=evO tm (cO P x'):=by
    cases h:cO P x' with
    | t t=>exact h1 t (by rw[ho,h];simp[AOp.opers])
    | c x=>rfl
  have hr:=H.ev x';rw[hev,hx]at hr;obtain⟨hd1,r1,r2,r3⟩:=hr;obtain⟨hd',ents,q1,q2,q3,q4,q5,q6,q7⟩:=H.mstBlk (by rw[h2 b (by simp)];exact hb);rw[r1]at q1;cases q1;have hf:fr f:=by simpa using h3 0 (by omega)
  have hbf:b≠f:=by rintro rfl;rw[(H.fr b hf).1]at r1;cases r1
  let hd2:Hd:=⟨none,w.heap.size,0,0,0⟩
  obtain⟨A',hrel⟩:=H.newOwn hf (w':=w.alloc (.mapIter (some hd1.blk) ck #[] ck)) rfl rfl rfl (by simp) (λk hk=>heap_alloc_old w _ hk) hd2 rfl rfl (.itr b st ck [])
    (λA' hA hs=>⟨rfl,hd1,by rw[az _ _ hbf];exact r1,r2,heap_alloc_new w _⟩)
  have hrun:=run_range_map (P:=P) w t kt e hd1.blk ents ck g2 q3;have hex:(execOp a.eval o).run P w=.ok (.value (.pointer (some ⟨w.heap.size,0,none⟩))) (w.alloc (.mapIter (some hd1.blk) ck #[] ck)):=by simp_all [execOp]
  have hfin:aA P c A' (upd μ f (some hd2)) (λb=>fr b∧¬(f≤b∧b<f+16)) (aO o.dst (.ref f 0) tm') (cu (fE { c:=True,v:=.ref f 0,ad:=some (f,.itr b st ck []) }) hp') n (a.put o.dst (.pointer (some ⟨w.heap.size,0,none⟩))) (w.alloc (.mapIter (some hd1.blk) ck #[] ck)):=by
    rw[dh];exact(hrel.free (fr':=λb=>fr b∧¬(f≤b∧b<f+16)) λb hb=>⟨hb.1,λe=>hb.2 (by omega)⟩).put o.dst hd ⟨hd2,ai _ _ _,rfl,rfl⟩
  unfold Oper.wp;rw[hex,Oper.upon_value];exact hK _ _ _ _ hfin
theorem DE{w:World}{A:Nat→Prop}{μ:Mu}{kk:Option Nat}{ks:List MK}{vs:List AV}{ents:Array MapEntry}{ck i:Nat}{e:MapEntry}(h4:co kk ks ents ck)(h5:RVL w A vs μ (ents.toList.map (·.val)))(hi:ents.toList[i]?=some e) :
  ∃q v,ks[i]?=some q∧vs[i]?=some v∧e.key=q.v∧RV w A v μ e.val:=by
 have hl:=h4.len;have hv:=h5.length;rw[f']at hv;have hlt:i<ents.toList.length:=(I'.mp hi).1;have hlt2:i<ks.length:=by rw[←hl];simpa using hlt
 have hlt3:i<vs.length:=by omega
 refine⟨ks[i],vs[i],E' hlt2,E' hlt3,?_,h5.get2 (E' hlt3) (by rw[S',hi];rfl)⟩;have:=congrArg (·[i]?) h4.1
 simp only[S',hi,E' hlt2,ah',aK']at this;exact this
theorem MF{P:Program}{n:Nat}{o:Oper}{f:Nat}{tm:Nat→AV}{hp:Hp}{x:AO}{r m ck i s0:Nat}{kk:Option Nat}{ks:List MK}{vs:List AV}{st seen:List Nat}{q:MK}{v:AV}(ho:cOp P o.op o.type=.ent x)(hd:∀d,o.dst=some d→d<n)
  (hx:evO tm x=.ref r 0) (hr:hp r=some (.itr m st ck (seen++[s0]))) (hm:hp m=some (.mst kk ks vs st ck)) (hi:st[i]?=some s0) (hq:ks[i]?=some q) (hv:vs[i]?=some v) (hk:kOk q):gX P n o f tm hp [r,m] (.tup [kAV q,v]) cY:=by
 intro c A μ fr tm' hp' a w K Q H h1 h2 h3 hK;obtain⟨x',g1,rfl⟩:=P1 ho;have hev:evO tm' (cO P x')=evO tm (cO P x'):=by
  cases h:cO P x' with
  | t t=>exact h1 t (by rw[ho,h];simp[AOp.opers])
  | c x=>rfl
 have hrr:=H.ev x';rw[hev,hx]at hrr;obtain⟨hd1,r1,r2,r3⟩:=hrr;obtain⟨hd',hm',q1,q2,q3,q4,q5⟩:=H.itrBlk (by rw[h2 r (by simp)];exact hr);rw[r1]at q1;cases q1;obtain⟨hm2,ents,p1,p2,p3,p4,p5,p6,p7⟩:=H.mstBlk (by rw[h2 m (by simp)];exact hm);rw[q3]at p1;cases p1;rw[←p7,S',aw']at hi;obtain⟨e,hi,he⟩:=hi;obtain⟨q',v',e1,e2,e3,e4⟩:=DE p4 p5 hi;rw[hq]at e1;cases e1;rw[hv]at e2;cases e2;have hrun:=run_entry_at (P:=P) w hd1.blk hm'.blk ck seen.toArray ents ck e (by rw[q5,he];simp) p3 (al' hi) p4.2.2.2.1;have hex:(execOp a.eval o).run P w=.ok (.value (.tuple #[e.key,e.val])) w:=by simp_all [execOp]
 unfold Oper.wp;rw[hex,Oper.upon_value];refine hK _ _ A μ ((H.free λb hb=>hb.1).put o.dst hd ⟨[e.key,e.val],rfl,_,_,rfl,by rw[e3];exact Jt hk,_,_,rfl,e4,rfl⟩)
theorem MD{P:Program}{n:Nat}{o:Oper}{tm:Nat→AV}{hp:Hp}{x:AO}{r m ck:Nat}{kk:Option Nat}{ks:List MK}{vs:List AV}{st seen:List Nat}(ho:cOp P o.op o.type=.nxt x)(hd:∀d,o.dst=some d→d<n)
    (hx:evO tm x=.ref r 0) (hr:hp r=some (.itr m st ck seen)) (hm:hp m=some (.mst kk ks vs st ck)) (hk:∀q∈ks,kOk q)
    {c:Ctx} {A:Nat→Prop} {μ:Mu} {fr:Nat→Prop} {a:Act} {w:World} {K:Act→World→Prop} {Q:Exit→Act→World→Prop} (H:aA P c A μ fr tm hp n a w)
    (hK0:(∀s∈st,s∈seen)→∀a',aA P c A μ fr (aO o.dst (.tup [.bool false]) tm) hp n a' w→K a' w)
    (hK1:∀(i:Nat) (q:MK) (v:AV) (s:Nat),ks[i]?=some q→vs[i]?=some v→st[i]?=some s→s ∉ seen→∀a' w',aA P c A μ fr (aO o.dst (.tup [.bool true,kAV q,v]) tm) (upd (upd hp r none) r (some (.itr m st ck (seen++[s])))) n a' w'→K a' w'):o.wp P a w K Q:=by
  obtain⟨x',g1,rfl⟩:=Pz ho;have hrr:=H.ev x';rw[hx]at hrr;obtain⟨hd1,r1,r2,r3⟩:=hrr;obtain⟨hd',hm',q1,q2,q3,q4,q5⟩:=H.itrBlk hr;rw[r1]at q1;cases q1;obtain⟨hm2,ents,p1,p2,p3,p4,p5,p6,p7⟩:=H.mstBlk hm;rw[q3]at p1;cases p1
  rcases run_next_at (P:=P) w o.type hd1.blk hm'.blk ck ck seen.toArray ents ck q5 p3 p4.2.2.1 (V' _)with⟨h0,hrun⟩|⟨e,he,w1,hal,hrun⟩
  · have hex:(execOp a.eval o).run P w=.ok (.value (.tuple #[.bool false])) w:=by
      unfold execOp;rw[g1];simp only[Sem.run_bind,r3,hrun,Result.andThen_ok,Sem.run_pure]
    unfold Oper.wp;rw[hex,Oper.upon_value];refine hK0 (λs hs=>?_) _ (H.put o.dst hd ⟨[.bool false],rfl,_,_,rfl,cK _,rfl⟩);rw[←p7]at hs;obtain⟨y,hy,rfl⟩:=R'.mp hs;refine af' λhn=>?_;have:y∈leftOf ents seen.toArray:=by simp[leftOf,hn];simpa using hy
    have:=Array.eq_empty_of_size_eq_zero h0
    simp_all
  · have he':e∈ents.toList∧e.born ∉ seen:=by simpa[leftOf]using he
    obtain⟨i,hi⟩:=aQ'.mp he'.1;obtain⟨q,v,e1,e2,e3,e4⟩:=DE p4 p5 hi;have hex:(execOp a.eval o).run P w=.ok (.value (.tuple #[.bool true,e.key,e.val])) (ChangeMaps.setBlock w1 hd1.blk (.mapIter (some hm'.blk) ck (seen.toArray.push e.born) ck)):=by
      unfold execOp;rw[g1];simp only[Sem.run_bind,r3,hrun,Result.andThen_ok,Sem.run_pure]
    have H1:aA P c A μ fr tm hp n a w1∧cJ A w w1:=by
      rcases hal with rfl|rfl
      · exact⟨H,cJ.refl A _⟩
      · obtain⟨h1,h2⟩:=H.step (w':=w.drew) rfl rfl rfl (V' _) hp (λ_ _ h=>h) (λ_ _ _=>rfl) (λ_=>False) (λ_ h=>h.elim)
        have hA:(λx=>A x∨False)=A:=by funext x;simp
        rw[hA]at h1;exact⟨h1,h2⟩
    have hw1:w1.heap=w.heap:=by rcases hal with rfl|rfl<;>rfl
    have H2:=H1.1.writeObj (x:=.itr m st ck (seen++[e.born])) hr r1 r2 (.mapIter (some hm'.blk) ck (seen.toArray.push e.born) ck) λw' hw' hs=>⟨r2,hm',q3,q4,by
      rw[hw'];show(w1.heap.setIfInBounds hd1.blk _)[hd1.blk]?=_;have hlt:hd1.blk<w1.heap.size:=by rw[hw1];exact(bb'.mp q5).1
      rw[Array.getElem?_setIfInBounds_self_of_lt hlt];simp⟩
    have hs2:cJ A w1 { w1 with heap:=w1.heap.setIfInBounds hd1.blk (.mapIter (some hm'.blk) ck (seen.toArray.push e.born) ck) }:=λb hb=>by
      obtain⟨_,_,_,g3⟩:=H1.1.blk r _ hr;rename_i hdx g1x g2x;rw[r1]at g1x;cases g1x;have:=(g3 r2).1;show(w1.heap.setIfInBounds hd1.blk _)[b]?=w1.heap[b]?;rw[bL'];rintro rfl;exact this hb
    unfold Oper.wp;rw[hex,Oper.upon_value];refine hK1 i q v e.born e1 e2 (by rw[←p7,S',hi];rfl) he'.2 _ _ ((H2.put o.dst hd (v:=.tup [.bool true,kAV q,v]) (cv:=.tuple #[.bool true,e.key,e.val]) ?_));refine⟨[.bool true,e.key,e.val],rfl,_,_,rfl,cK _,_,_,rfl,by rw[e3];exact Jt (hk q (al' e1)),_,_,rfl,?_,rfl⟩;exact(e4.mono H1.2 (λ_ h=>h) _ (bp.refl _)).mono hs2 (λ_ h=>h) _ (bp.refl _)
def Mn(P:Program)(n:Nat)(fid:FuncId)(args:List AV)(hp:Hp)(foot:List Nat)(v:AV):Prop:=
 ∀(c:Ctx) (A:Nat→Prop) (μ:Mu) (fr:Nat→Prop) (tm':Nat→AV) (hp':Hp) (a:Act) (w:World) (cargs:List Value),aA P c A μ fr tm' hp' n a w→(∀b∈foot,hp' b=hp b)→RVL w A args μ cargs →
  ∃cv,(callFunc fid cargs.toArray).run P w=.ok (.value cv) w∧RV w A v μ cv
def bg (P : Program) (n : Nat) (fid : FuncId) (args : List AV) (f : Nat) (hp : Hp) (foot : List Nat) (v : AV) (e : Eff) : Prop :=
  (∃ fn, P.funcs[fid]? = some fn ∧ fn.body.isSome = true ∧ (fn.name == "runtime.NumGoroutine") = false) ∧
  ∀ (c : Ctx) (A : Nat → Prop) (μ : Mu) (fr : Nat → Prop) (tm' : Nat → AV) (hp' : Hp) (a : Act) (w : World) (cargs : List Value),
    aA P c A μ fr tm' hp' n a w → (∀ b ∈ foot, hp' b = hp b) → (∀ j, j < 16 → fr (f + j)) → RVL w A args μ cargs →
    Calls P fid cargs.toArray w fun e' w' => ∃ cv A' μ', e' = .returned cv ∧ aA P c A' μ' (fun b => fr b ∧ ¬ (f ≤ b ∧ b < f + 16)) tm' (cu e hp') n a w' ∧ RV w' A' v μ' cv
theorem Ao {P : Program} {w : World} {a : Act} {o : Oper} {g : Operand} {args : Array Operand} {ts : Array TypeId} (ho : o.op = .call { callee := .value g, args := args, argTypes := ts })
    {fid : FuncId} {caps : Array Value} (hg : a.eval g = .func (.func fid) #[] caps) {fn : Func} (hf : P.funcs[fid]? = some fn) (hb : fn.body.isSome = true) (hn : (fn.name == "runtime.NumGoroutine") = false) :
    (execOp a.eval o).run P w = .ok (.enter fid (args.map a.eval ++ caps)) w := by
  have hb' : fn.body.isNone = false := by cases h : fn.body <;> simp_all
  unfold execOp;rw [ho];simp only [resolve, hg, Deferred.ofValue, Sem.run_bind, Sem.run_pure, Result.andThen_ok, invoke, callFunc, run_program, hf, hn, hb', bk', ↓reduceIte];simp
theorem FO{P:Program}{ptr:Bool}{op:BinOp}{x y:Operand}{g:AO}{xs:List AO}(h:iT P ptr op x y=.call g xs):False:=by
 unfold iT at h
 grind
theorem yj{P:Program}{op:Op}{ty:TypeId}{g:AO}{xs:List AO}(ho:cOp P op ty=.call g xs) :
    ∃g' args ts,op=.call { callee:=.value g',args:=args,argTypes:=ts }∧g=cO P g'∧xs=args.toList.map (cO P):=by
  cases op with
  | call c =>
    obtain⟨callee,args,ts⟩:=c;cases callee with
    | value g'=>simp only[cOp,dv,AOp.call.injEq]at ho;exact⟨g',args,ts,rfl,ho.1.symm,ho.2.symm⟩
    | invoke r m=>simp[cOp,dv]at ho
    | builtin b =>
      simp only[cOp,dv]at ho
      (repeat' split at ho)<;>cases ho
  | makeFunc fn first captured =>
    cases fn<;>simp only[cOp]at ho<;>(repeat' split at ho)<;>cases ho
  | makeMap t r=>cases r<;>simp only[cOp]at ho<;>(repeat' split at ho)<;>cases ho
  | typeAssert x' st t ok=>cases ok<;>simp only[cOp]at ho<;>(repeat' split at ho)<;>cases ho
  | next x' b=>cases b<;>simp only[cOp]at ho<;>cases ho
  | binOp op t x y yt =>
    simp only[cOp]at ho
    (repeat' split at ho)<;>first|exact(FO ho).elim|cases ho
  | _=>simp only[cOp,kH]at ho<;>(repeat' split at ho)<;>cases ho
theorem Ap{P:Program}{w:World}{a:Act}{o:Oper}{g:Operand}{args:Array Operand}{ts:Array TypeId}(ho:o.op=.call { callee:=.value g,args:=args,argTypes:=ts })
    {fid:FuncId} {caps:Array Value} (hg:a.eval g=.func (.func fid) #[] caps) :
    (execOp a.eval o).run P w=(callFunc fid (args.map a.eval++caps)).run P w:=by
  unfold execOp;rw[ho];simp only[resolve,hg,Deferred.ofValue,Sem.run_bind,Sem.run_pure,Result.andThen_ok,invoke];simp
theorem BO{P:Program}{n:Nat}{o:Oper}{f:Nat}{tm:Nat→AV}{hp:Hp}{g:AO}{xs:List AO}(ho:cOp P o.op o.type=.call g xs)(hd:∀d,o.dst=some d→d<n)
  {fid:FuncId} {caps:List AV} (hg:evO tm g=.func fid caps) {foot:List Nat} {v:AV} (h:Mn P n fid (xs.map (evO tm)++caps) hp foot v):gX P n o f tm hp foot v cY:=by
 intro c A μ fr tm' hp' a w K Q H h1 h2 h3 hK;have hev:∀x∈(cOp P o.op o.type).opers,evO tm' x=evO tm x:=by
  intro x hx;cases x with
  | t t=>exact h1 t hx
  | c x=>rfl
 have hop:=yj ho;obtain⟨g',args,ts,ho',rfl,rfl⟩:=hop;rw[ho]at hev;have hg':=hev (cO P g') (by simp[AOp.opers]);have hgr:=H.ev g';rw[hg',hg]at hgr;obtain⟨cvs,e1,e2⟩:=hgr;have hxs:(args.toList.map (cO P)).map (evO tm)=args.toList.map λx=>evO tm' (cO P x):=by
  rw[aV'];refine aE' λx hx=>?_;exact(hev (cO P x) (by simp only[AOp.opers,P',R'];exact .inr ⟨x,hx,rfl⟩)).symm
 rw[hxs]at h;have hargs:=(H.evs args.toList).append e2;obtain⟨cv,q1,q2⟩:=h c A μ fr tm' hp' a w _ H h2 hargs;unfold Oper.wp;have ea:args.map a.eval++cvs.toArray=(args.toList.map a.eval++cvs).toArray:=by apply bX';simp
 rw[Ap ho' e1,ea,q1,Oper.upon_value];exact hK _ _ _ _ ((H.free λb hb=>hb.1).put o.dst hd q2)
theorem vz{P:Program}{n:Nat}{o:Oper}{f:Nat}{tm:Nat→AV}{hp:Hp}{g:AO}{xs:List AO}(ho:cOp P o.op o.type=.call g xs)(hd:∀d,o.dst=some d→d<n)
  {fid:FuncId} {caps:List AV} (hg:evO tm g=.func fid caps) {foot:List Nat} {v:AV} {e:Eff} (h:bg P n fid (xs.map (evO tm)++caps) f hp foot v e):gX P n o f tm hp foot v e:=by
 intro c A μ fr tm' hp' a w K Q H h1 h2 h3 hK;have hev:∀x∈(cOp P o.op o.type).opers,evO tm' x=evO tm x:=by
  intro x hx;cases x with
  | t t=>exact h1 t hx
  | c x=>rfl
 obtain⟨⟨fn,f1,f2,f3⟩,hcall⟩:=h;have hop:=yj ho;obtain⟨g',args,ts,ho',rfl,rfl⟩:=hop;rw[ho]at hev;have hg':=hev (cO P g') (by simp[AOp.opers]);have hgr:=H.ev g';rw[hg',hg]at hgr;obtain⟨cvs,e1,e2⟩:=hgr;have hxs:(args.toList.map (cO P)).map (evO tm)=args.toList.map λx=>evO tm' (cO P x):=by
  rw[aV'];refine aE' λx hx=>?_;exact(hev (cO P x) (by simp only[AOp.opers,P',R'];exact .inr ⟨x,hx,rfl⟩)).symm
 rw[hxs]at hcall;have hargs:=(H.evs args.toList).append e2;have:=hcall c A μ fr tm' hp' a w _ H h2 h3 hargs;unfold Oper.wp;rw[Ao ho' e1 f1 f2 f3,Oper.upon_enter];have ea:args.map a.eval++cvs.toArray=(args.toList.map a.eval++cvs).toArray:=by apply bX';simp
 rw[ea];refine this.mono ?_;rintro e' w' ⟨cv,A',μ',rfl,r1,r2⟩;exact hK _ _ _ _ (r1.put o.dst hd r2)
end Go.Am
namespace Go.Am
def mI (P : Program) (fid : FuncId) : Prop := ∃ fn, P.funcs[fid]? = some fn ∧ fn.body.isSome = true ∧ (fn.name == "runtime.NumGoroutine") = false
theorem Ext.step{P:Program}{c:Ctx}{A:Nat→Prop}{μ:Mu}{fr:Nat→Prop}{tm:Nat→AV}{hp:Hp}{n:Nat}{a:Act}{w w':World}(H:aA P c A μ fr tm hp n a w)
  (h:Ext (λ_=>False) w w') (A':Nat→Prop) (h1:∀b,A b→A' b) (h2:∀b,A' b→A b∨w.heap.size≤b) (h3:∀b,A' b→b<w'.heap.size):aA P c A' μ fr tm hp n a w':=by
 obtain⟨r,_⟩:=H.step h.os h.tape h.output h.size hp (λ_ _ h=>h) (λk hk _=>h.block k hk (λh=>h)) (λb=>A' b∧w.heap.size≤b) (λb hb=>⟨hb.2,h3 b hb.1⟩);have:(λb=>A b∨(A' b∧w.heap.size≤b))=A':=by grind
 rwa [this]at r
theorem bg.pure{P:Program}{n:Nat}{fid:FuncId}{args:List AV}{f:Nat}{hp:Hp}{r:AV}(hf:mI P fid)(hs:eQ P fid args r)(hp1:bU args):bg P n fid args f hp [] r cY:=by
 refine⟨hf,?_⟩;intro c A μ fr tm' hp' a w cargs H _ _ h3;refine(hs w A cargs H.lt (RVL.pure hp1 h3)).mono ?_;rintro e w' ⟨v,A',rfl,r1,r2,r3,r4,r5⟩;exact⟨v,A',μ,rfl,(Ext.step H r2 A' r3 r4 r5).free λb hb=>hb.1,r1.up⟩
def fI(foot:List Nat)(hp:Hp)(x y:AV):Prop:=
 ∀(P:Program) (c:Ctx) (A:Nat→Prop) (μ:Mu) (fr:Nat→Prop) (tm':Nat→AV) (hp':Hp) (n:Nat) (a:Act) (w:World) (cv:Value),aA P c A μ fr tm' hp' n a w→(∀b∈foot,hp' b=hp b) →
  RV w A x μ cv→RV w (λb=>A b∨cg μ hp' b) y dC cv
def jL(foot:List Nat)(hp:Hp):List AV→List AV→Prop
 | [],[]=>True
 | x::xs,y::ys=>fI foot hp x y∧jL foot hp xs ys
 | _,_=>False
theorem jL.rvl{P:Program}{foot:List Nat}{hp:Hp}{c:Ctx}{A:Nat→Prop}{μ:Mu}{fr:Nat→Prop}{tm':Nat→AV}{hp':Hp}{n:Nat}{a:Act}{w:World}(H:aA P c A μ fr tm' hp' n a w)(hh:∀b∈foot,hp' b=hp b) :
  ∀{xs ys:List AV} {vs:List Value},jL foot hp xs ys→RVL w A xs μ vs→RVL w (λb=>A b∨cg μ hp' b) ys dC vs
 | [],[],_,_,h=>h
 | x::xs,y::ys,_,hv,⟨v,vs',h1,h2,h3⟩=>⟨v,vs',h1,hv.1 P c A μ fr tm' hp' n a w v H hh h2,jL.rvl H hh hv.2 h3⟩
 | [],_::_,_,hv,_=>hv.elim
 | _::_,[],_,hv,_=>hv.elim
theorem fI.pure{foot:List Nat}{hp:Hp}{x:AV}(h:x.pure):fI foot hp x x:=
 λP c A μ fr tm' hp' n a w cv H _ hv=>RV.pure h (hv.mono (cJ.refl A w) (λb hb=>.inl hb) x (bp.refl _))
theorem fI.ref{foot:List Nat}{hp:Hp}{b off:Nat}{x:AV}(hb:b∈foot)(h:hp b=some (.box x))(hx:x.pure):fI foot hp (.ref b off) (.rptr x off):=by
 intro P c A μ fr tm' hp' n a w cv H hh hv;obtain⟨hd,e1,e2,rfl⟩:=hv;obtain⟨hd',v,ty,f1,f2,f3,f4,f5,f6⟩:=H.box ((hh b hb).trans h);rw[e1]at f1;cases f1;obtain⟨hd',g1,_,g3⟩:=H.blk b _ ((hh b hb).trans h);rw[e1]at g1;cases g1;refine⟨hd.blk,0,v,by simp,.inr ⟨b,_,hd,(hh b hb).trans h,e1,e2,rfl⟩,RV.pure hx (f4.mono (cJ.refl A w) (λb hb=>.inl hb) x (bp.refl _)),(RV.cells f3 f4).2,λp u hu=>f6 p u hu⟩
theorem fI.vec{foot:List Nat}{hp:Hp}{b k:Nat}{es:List AV}(hb:b∈foot)(h:hp b=some (.vec k es))(hx:bU es):fI foot hp (.vec b) (.sl k es false):=by
 intro P c A μ fr tm' hp' n a w cv H hh hv;obtain⟨hd,e1,rfl⟩:=hv;obtain⟨hd',f1,f2,f3⟩:=H.vec ((hh b hb).trans h);rw[e1]at f1;cases f1;obtain⟨hd',g1,_,g3⟩:=H.blk b _ ((hh b hb).trans h);rw[e1]at g1;cases g1
 rcases f3 with⟨rfl,a',f3⟩|⟨g1,g2,g4,g5,C,ty,vs,k1,k2,k3,k4,k5,k6,k7⟩
 ·rw[Hd.val,f3];exact .inl ⟨rfl,a',rfl⟩
 ·have hv:hd.val=.slice (some ⟨hd.blk,0,none⟩) es.length hd.cap:=by rw[Hd.val,g1,g2]
  rw[hv];refine .inr ⟨hd.blk,0,hd.cap,vs,rfl,.inr ⟨b,_,hd,(hh b hb).trans h,e1,g1,rfl⟩,by omega,g5,(λh=>by cases h),RVL.pure hx (RVL.mono (cJ.refl A w) (λb hb=>.inl hb) es (bp.refl _) k2),λv hv=>⟨k4 v hv,?_⟩,λp u hu=>by rw[aB'];exact k7 p u hu,k3⟩;obtain⟨i,hi⟩:=aQ'.1 hv;have hlt:i<es.length:=by rw[k2.length];exact(I'.1 hi).1
  have hxe:es[i]?=some es[i]:=E' hlt;exact(RV.cells (k3 _ (ay' hlt)) (k2.get2 hxe hi)).2
theorem fI.map{foot:List Nat}{hp:Hp}{b:Nat}{kk:Option Nat}{ks:List MK}{vs:List AV}(hb:b∈foot)(h:hp b=some (.map kk ks vs))(hx:bU vs):fI foot hp (.mref b) (.mp kk ks vs):=by
 intro P c A μ fr tm' hp' n a w cv H hh hv;obtain⟨hd,e1,e2,rfl⟩:=hv;obtain⟨hd',ents,clock,g1,g2,g3,g4,g5,g6⟩:=H.mapBlk ((hh b hb).trans h);rw[e1]at g1;cases g1;exact⟨_,ents,clock,rfl,.inr ⟨b,_,hd,(hh b hb).trans h,e1,e2,rfl⟩,g3,g4,RVL.pure hx (RVL.mono (cJ.refl A w) (λb hb=>.inl hb) vs (bp.refl _) g5),g6⟩
theorem jL.cons{foot:List Nat}{hp:Hp}{x y:AV}{xs ys:List AV}(h:fI foot hp x y)(t:jL foot hp xs ys):jL foot hp (x::xs) (y::ys):=⟨h,t⟩
theorem fI.agg{foot:List Nat}{hp:Hp}{xs ys:List AV}(h:jL foot hp xs ys):fI foot hp (.agg xs) (.agg ys):=by
 rintro P c A μ fr tm' hp' n a w cv H hh ⟨vs,e1,e2,e3⟩;exact⟨vs,e1,h.rvl H hh e2,e3⟩
theorem fI.func{foot:List Nat}{hp:Hp}{g:FuncId}{xs ys:List AV}(h:jL foot hp xs ys):fI foot hp (.func g xs) (.func g ys):=by
 rintro P c A μ fr tm' hp' n a w cv H hh ⟨vs,e1,e2⟩;exact⟨vs,e1,h.rvl H hh e2⟩
theorem bg.lend{P:Program}{n:Nat}{fid:FuncId}{args args':List AV}{f:Nat}{hp:Hp}{foot:List Nat}{r:AV}(hf:mI P fid)(hs:eQ P fid args' r)(hv:jL foot hp args args')(hr:r.flat) :
  bg P n fid args f hp foot r cY:=by
 refine⟨hf,?_⟩;intro c A μ fr tm' hp' a w cargs H h1 _ h3
 refine(hs w (λb=>A b∨cg μ hp' b) cargs (H.lt.mono (cJ.refl A w) (λb hb=>.inl hb) λb h=>?_) (hv.rvl H h1 h3)).mono ?_
 ·rcases h with h|⟨b',x,hd,e1,e2,e3,rfl⟩
  ·exact H.lt b h
  ·obtain⟨hd',g1,_,g3⟩:=H.blk b' x e1
   simp_all
 rintro e w' ⟨v,A',rfl,r1,r2,r3,r4,r5⟩;exact⟨v,A,μ,rfl,(Ext.step H r2 A (λ_ h=>h) (λ_ h=>.inl h) (λb hb=>bj' (H.lt b hb) r2.size)).free λb hb=>hb.1,RV.flat hr r1⟩
def fH:List (Nat×Option Blk)→Eff
 | []=>cY
 | (b,x)::l=>λc=>if c=b then some x else fH l c
theorem Ad(b:Nat)(x:Option Blk)(l:List (Nat×Option Blk))(hp:Hp):cu (fH ((b,x)::l)) hp=upd (cu (fH l) hp) b x:=by grind [cu,fH,upd]
theorem EY(hp:Hp):cu (fH []) hp=hp:=rfl
def bj(bs:List Nat)(f:Nat)(i:Nat):Nat:=if i<bs.length then bs.getD i 0 else f+(i-bs.length)
def cC(bs:List Nat)(f:Nat)(h':List (Option Blk)):Eff:=
 fH (h'.zipIdx.map λ(x,i)=>(bj bs f i,x.map (Blk.ren (bj bs f))))
theorem sJ(bs:List Nat)(f:Nat)(g:Option Blk→Option Blk):∀(h':List (Option Blk)) (k:Nat) (b:Nat),
  (∀i j,k≤i→i<k+h'.length→k≤j→j<k+h'.length→bj bs f i=bj bs f j→i=j) →
  (∀i,k≤i→i<k+h'.length→bj bs f i=b→fH ((h'.zipIdx k).map λ(x,i)=>(bj bs f i,g x)) b=some (g (h'.getD (i-k) none))) ∧
  ((∀i,k≤i→i<k+h'.length→bj bs f i≠b)→fH ((h'.zipIdx k).map λ(x,i)=>(bj bs f i,g x)) b=none)
 | [],k,b,_=>⟨λi h1 h2=>by simp at h2;omega,λ_=>rfl⟩
 | x::h',k,b,hinj=>by
  obtain⟨ih1,ih2⟩:=sJ bs f g h' (k+1) b (λi j h1 h2 h3 h4=>hinj i j (by omega) (by simp;omega) (by omega) (by simp;omega))
  refine⟨λi h1 h2 h3=>?_,λhn=>?_⟩
  ·simp only[List.zipIdx_cons,au',fH]
   by_cases hik:i=k
   ·subst hik;rw[if_pos h3.symm];simp
   ·have hne:b≠bj bs f k:=by
     rintro rfl;exact hik (hinj i k h1 h2 (V' _) (by simp) h3)
    rw[u' hne,ih1 i (by omega) (by simp at h2;omega) h3]
    congr 2
    have:i-k=(i-(k+1))+1:=by omega
    rw[this];rfl
  ·simp only[List.zipIdx_cons,au',fH];rw[u' (Ne.symm (hn k (V' _) (by simp)))];exact ih2 λi h1 h2=>hn i (by omega) (by simp;omega)
theorem ka{l:List Blk}{i:Nat}{x:Blk}:bo (l.map some) i=some x↔l[i]?=some x:=by grind [bo]
theorem bu{l:List (Option Blk)}{i:Nat}{x:Blk}:bo l i=some x↔l[i]?=some (some x):=by grind [bo]
def QY(P:Program)(w:World)(A:Nat→Prop)(μ:Mu)(h:List Blk)(r:AV)(h':List (Option Blk))(e:Ending)(w':World):Prop:=
 ∃v A' μ',e=.returned v∧RV w' A' r μ' v∧jM P w' A' μ' (bo h')∧bp μ μ'∧Ext (cg μ (bo (h.map some))) w w' ∧
   (∀b,A b→A' b)∧(∀b,A' b→A b∨cg μ (bo (h.map some)) b∨w.heap.size≤b) ∧
   (∀b,cg μ' (bo h') b→cg μ (bo (h.map some)) b∨w.heap.size≤b)
def jN(P:Program)(f:FuncId)(args:List AV)(h:List Blk)(Qr:AV→List (Option Blk)→Prop):Prop:=
 ∀(w:World) (A:Nat→Prop) (μ:Mu) (cargs:List Value),jM P w A μ (bo (h.map some))→(∀b,h.length≤b→μ b=none)→RVL w A args μ cargs →
  Calls P f cargs.toArray w λe w'=>∃r h',Qr r h'∧QY P w A μ h r h' e w'
theorem bc.toE{P:Program}{f:FuncId}{args:List AV}{h:List Blk}{r:AV}{h':List (Option Blk)}(hs:bc P f args h r h'):jN P f args h (λr0 h0=>r0=r∧h0=h'):=
 λw A μ cargs h1 h2 h3=>(hs w A μ cargs h1 h2 h3).mono λe w' q=>⟨r,h',⟨rfl,rfl⟩,q⟩
theorem jN.toS{P:Program}{f:FuncId}{args:List AV}{h:List Blk}{r:AV}{h':List (Option Blk)}(hs:jN P f args h (λr0 h0=>r0=r∧h0=h')):bc P f args h r h':=
 λw A μ cargs h1 h2 h3=>(hs w A μ cargs h1 h2 h3).mono λe w'=>by rintro⟨_,_,⟨rfl,rfl⟩,q⟩;exact q
def Mq (P : Program) (n : Nat) (fid : FuncId) (args : List AV) (f : Nat) (hp : Hp) (foot : List Nat) (Qv : AV → Eff → Prop) : Prop :=
  (∃ fn, P.funcs[fid]? = some fn ∧ fn.body.isSome = true ∧ (fn.name == "runtime.NumGoroutine") = false) ∧
  ∀ (c : Ctx) (A : Nat → Prop) (μ : Mu) (fr : Nat → Prop) (tm' : Nat → AV) (hp' : Hp) (a : Act) (w : World) (cargs : List Value),
    aA P c A μ fr tm' hp' n a w → (∀ b ∈ foot, hp' b = hp b) → (∀ j, j < 16 → fr (f + j)) → RVL w A args μ cargs →
    Calls P fid cargs.toArray w fun e' w' => ∃ v e, Qv v e ∧ ∃ cv A' μ', e' = .returned cv ∧ aA P c A' μ' (fun b => fr b ∧ ¬ (f ≤ b ∧ b < f + 16)) tm' (cu e hp') n a w' ∧ RV w' A' v μ' cv
theorem Mq.hand{P:Program}{n:Nat}{fid:FuncId}{args:List AV}{f:Nat}{hp:Hp}{h:List Blk}{Qr:AV→List (Option Blk)→Prop}(hf:mI P fid)(hs:jN P fid args h Qr)(bs:List Nat)
  (hl:bs.length=h.length) (hnd:bs.Nodup) (hargs:fP h.length args) (hblk:∀(i:Nat) (b:Nat) (x:Blk),bs[i]?=some b→h[i]?=some x→x.bel h.length∧hp b=some (x.ren (bj bs f)))
  (hQ:∀r h',Qr r h'→h.length≤h'.length∧h'.length≤h.length+16∧r.bel h'.length∧∀x,some x∈h'→x.bel h'.length) :
  Mq P n fid (dm (bj bs f) args) f hp bs (λv e=>∃r h',Qr r h'∧v=r.ren (bj bs f)∧e=cC bs f h'):=by
 refine⟨hf,?_⟩;intro c A μ fr tm' hp' a w cargs H h1 hfr h3
 -- the callee's heads
 have hbs:∀i,i<h.length→∃b x hd,bs[i]?=some b∧h[i]?=some x∧bj bs f i=b∧hp' b=some (x.ren (bj bs f))∧μ b=some hd∧x.bel h.length:=by
  intro i hi;have hib:i<bs.length:=by omega
  have e1:bs[i]?=some bs[i]:=E' hib;have e2:h[i]?=some h[i]:=E' hi;obtain⟨e3,e4⟩:=hblk i _ _ e1 e2;have e5:hp' bs[i]=some (h[i].ren (bj bs f)):=(h1 _ (ay' hib)).trans e4;obtain⟨hd,e6,_⟩:=H.blk _ _ e5
  grind [bj,List.getD]
 let μc:Mu:=λi=>if i<h.length then μ (bj bs f i)else none
 have hμc:∀i,i<h.length→μc i=μ (bj bs f i):=λi hi=>by simp[μc,hi]
 have hun:∀b,b<h.length→∀hd,μ (bj bs f b)=some hd→μc b=some hd:=λb hb hd e=>by rw[hμc b hb];exact e
 have hpi:∀i j,i<h.length→j<h.length→bj bs f i=bj bs f j→i=j:=by
  intro i j hi hj e;unfold bj at e;rw[if_pos (by omega),if_pos (by omega)]at e
  grind [List.getElem?_eq_getElem,List.getD,List.getElem?_inj]
 have hHeap:jM P w A μc (bo (h.map some)):=by
  refine⟨λb x hx=>?_,λb b' x x' hd hd' hx hx' hm hm' he he' heq=>?_,H.lt⟩
  ·have hx:=ka.1 hx;have hb:b<h.length:=(I'.1 hx).1;obtain⟨b0,x0,hd,e1,e2,e3,e4,e5,e6⟩:=hbs b hb;rw[hx]at e2;cases e2;obtain⟨hd',g1,g2,g3⟩:=H.blk _ _ e4;rw[e5]at g1;cases g1;exact⟨hd,by rw[hμc b hb,e3];exact e5,g2.unren hun e6,λhe=>⟨(g3 he).1,(g3 he).2.1⟩⟩
  ·have hx:=ka.1 hx;have hx':=ka.1 hx';have hb:b<h.length:=(I'.1 hx).1;have hb1:b'<h.length:=(I'.1 hx').1;obtain⟨b0,x0,hd0,e1,e2,e3,e4,e5,e6⟩:=hbs b hb;obtain⟨b1,x1,hd1,f1,f2,f3,f4,f5,f6⟩:=hbs b' hb1;rw[hμc b hb]at hm;rw[hμc b' hb1]at hm';rw[←e3]at e4;rw[←f3]at f4;exact hpi b b' hb hb1 (H.inj _ _ _ _ hd hd' e4 f4 hm hm' he he' heq)
 have hown:∀k,cg μc (bo (h.map some)) k→∃b x hd,b∈bs∧hp' b=some x∧μ b=some hd∧hd.emp=none∧hd.blk=k:=by
  rintro k ⟨i,x,hd,hx,hm,he,hk⟩
  grind
 refine(hs w A μc cargs hHeap (λb hb=>by simp[μc];omega) (RVL.unren hun hargs h3)).mono ?_;rintro e w' ⟨r,h',hq,v,A',μ',rfl,r1,r2,r3,r4,r5,r6,r7⟩;obtain⟨hk,hk',hr,hb'⟩:=hQ r h' hq
 let μ2:Mu:=λb=>if f≤b∧b<f+16 then μ' (h.length+(b-f))else μ b
 have hfree:∀b,f≤b→b<f+16→μ b=none∧hp' b=none:=by
  intro b hb1 hb2;have:=hfr (b-f) (by omega);rw[show f+(b-f)=b by omega]at this;exact H.fr b this
 have hμ2:bp μ μ2:=by
  intro b hd hb
  grind
 have hren:∀b,b<h'.length→∀hd,μ' b=some hd→μ2 (bj bs f b)=some hd:=by
  intro b hb hd e
  by_cases hbk:b<h.length
  ·obtain⟨b0,x0,hd0,e1,e2,e3,e4,e5,e6⟩:=hbs b hbk;have:μ' b=some hd0:=r3 b hd0 (by rw[hμc b hbk,e3];exact e5)
   grind
  ·grind [bj]
 have hSame:cJ A w w':=by
  intro b hb;refine r4.block b (H.lt b hb) λho=>?_;obtain⟨b0,x,hd,_,g1,g2,g3,g4⟩:=hown b ho;obtain⟨hd',g5,_,g6⟩:=H.blk _ _ g1
  simp_all
 have hpi2:∀i j,i<h'.length→j<h'.length→bj bs f i=bj bs f j→i=j:=by grind [bj]
 have heff:∀b,(∃i,i<h'.length∧bj bs f i=b∧cC bs f h' b=some ((h'.getD i none).map (Blk.ren (bj bs f))))∨((∀i,i<h'.length→bj bs f i≠b)∧cC bs f h' b=none):=by
  intro b;obtain⟨s1,s2⟩:=sJ bs f (λx=>x.map (Blk.ren (bj bs f))) h' 0 b (λi j _ h2 _ h4=>hpi2 i j (by omega) (by omega))
  by_cases hex:∃i,i<h'.length∧bj bs f i=b
  ·obtain⟨i,hi,hb⟩:=hex;exact .inl ⟨i,hi,hb,by simpa[cC]using s1 i (by omega) (by omega) hb⟩
  ·have hn:∀i,i<h'.length→bj bs f i≠b:=λi hi hb=>hex ⟨i,hi,hb⟩;exact .inr ⟨hn,by simpa[cC]using s2 λi _ hi=>hn i (by omega)⟩
 have hblk2:∀b x,cu (cC bs f h') hp' b=some x→(∃i y,i<h'.length∧bj bs f i=b∧h'[i]?=some (some y)∧x=y.ren (bj bs f))∨((∀i,i<h'.length→bj bs f i≠b)∧hp' b=some x):=by
  intro b x hx
  rcases heff b with⟨i,hi,hb,he⟩|⟨hn,he⟩
  ·left;simp only[cu,he]at hx;cases hy:h'.getD i none with
   | none=>rw[hy]at hx;simp at hx
   | some y =>
    rw[hy]at hx;simp at hx;refine⟨i,y,hi,hb,?_,hx.symm⟩;have:h'[i]?=some h'[i]:=E' hi;simp[List.getD,this]at hy;rw[this,hy]
  ·right;simp only[cu,he]at hx;exact⟨hn,hx⟩
 have hold:∀b x hd,(∀i,i<h'.length→bj bs f i≠b)→hp' b=some x→μ b=some hd→hd.emp=none→w'.heap[hd.blk]?=w.heap[hd.blk]?∧¬cg μc (bo (h.map some)) hd.blk:=by
  intro b x hd hn hx hm he;obtain⟨hd',g5,_,g6⟩:=H.blk _ _ hx;rw[hm]at g5;cases g5;have hno:¬cg μc (bo (h.map some)) hd.blk:=by
   intro ho;obtain⟨b0,x0,hd0,k1,k2,k3,k4,k5⟩:=hown _ ho;have:=H.inj _ _ _ _ _ _ k2 hx k3 hm k4 he k5;subst this;obtain⟨i,hi⟩:=aQ'.1 k1;have hib:i<bs.length:=(I'.1 hi).1;refine hn i (by omega) ?_;unfold bj;rw[if_pos hib];simp[List.getD,hi]
  exact⟨r4.block _ (g6 he).2.1 hno,hno⟩
 refine⟨_,_,⟨r,h',hq,rfl,rfl⟩,v,A',μ2,rfl,?_,RV.doren hren hr r1⟩
 refine⟨λt=>(H.tm t).mono hSame r5 _ hμ2,H.n,H.df,?_,?_,r2.lt,?_,?_,λb hb=>r5 b (H.A0 b hb),?_,H.mu.trans hμ2⟩
 ·intro b x hx
  rcases hblk2 b x hx with⟨i,y,hi,hb,hy,rfl⟩|⟨hn,hx⟩
  ·obtain⟨hd,g1,g2,g3⟩:=r2.blk i y (bu.2 hy);refine⟨hd,by rw[←hb];exact hren i hi hd g1,g2.doren hren (hb' y (al' hy)),λhe=>⟨(g3 he).1,(g3 he).2,?_⟩⟩
   rcases r7 hd.blk ⟨i,y,hd,bu.2 hy,g1,he,rfl⟩with ho|ho
   ·obtain⟨b0,x0,hd0,k1,k2,k3,k4,k5⟩:=hown _ ho;obtain⟨hd',q5,_,q6⟩:=H.blk _ _ k2;rw[k3]at q5;cases q5;rw[←k5];exact(q6 k4).2.2
   ·exact .inr (aF' H.keep.size ho)
  ·obtain⟨hd,g1,g2,g3⟩:=H.blk b x hx;refine⟨hd,hμ2 _ _ g1,g2.mono hSame r5 hμ2 (λhe=>(hold b x hd hn hx g1 he).1),λhe=>⟨λhA'=>?_,bj' (g3 he).2.1 r4.size,(g3 he).2.2⟩⟩
   rcases r6 _ hA' with hq|hq|hq
   ·exact(g3 he).1 hq
   ·exact(hold b x hd hn hx g1 he).2 hq
   ·have:=(g3 he).2.1;omega
 ·intro b b' x x' hd hd' hx hx' hm hm' he he' heq
  rcases hblk2 b x hx with⟨i,y,hi,hb,hy,rfl⟩|⟨hn,hx1⟩
  ·obtain⟨hd1,g1,g2,g3⟩:=r2.blk i y (bu.2 hy);have e1:=hren i hi hd1 g1;rw[hb,hm]at e1;cases e1
   rcases hblk2 b' x' hx' with⟨i',y',hi',hb1,hy',rfl⟩|⟨hn',hx1'⟩
   ·obtain⟨hd2,k1,k2,k3⟩:=r2.blk i' y' (bu.2 hy');have e2:=hren i' hi' hd2 k1;rw[hb1,hm']at e2;cases e2;have:=r2.inj i i' y y' _ _ (bu.2 hy) (bu.2 hy') g1 k1 he he' heq;subst this;rw[←hb,←hb1]
   ·exfalso;obtain⟨hd2,k1,k2,k3⟩:=H.blk b' x' hx1';have:=hμ2 _ _ k1;rw[hm']at this;cases this
    rcases r7 hd.blk ⟨i,y,hd,bu.2 hy,g1,he,rfl⟩with ho|ho
    ·exact(hold b' x' _ hn' hx1' k1 he').2 (heq ▸ ho)
    ·have:=(k3 he').2.1;omega
  ·obtain⟨hd1,g1,g2,g3⟩:=H.blk b x hx1;have e1:=hμ2 _ _ g1;rw[hm]at e1;cases e1
   rcases hblk2 b' x' hx' with⟨i',y',hi',hb1,hy',rfl⟩|⟨hn',hx1'⟩
   ·exfalso;obtain⟨hd2,k1,k2,k3⟩:=r2.blk i' y' (bu.2 hy');have e2:=hren i' hi' hd2 k1;rw[hb1,hm']at e2;cases e2
    rcases r7 _ ⟨i',y',_,bu.2 hy',k1,he',rfl⟩with ho|ho
    ·exact(hold b x _ hn hx1 g1 he).2 (heq ▸ ho)
    ·have:=(g3 he).2.1;omega
   ·obtain⟨hd2,k1,k2,k3⟩:=H.blk b' x' hx1';have e2:=hμ2 _ _ k1;rw[hm']at e2;cases e2;exact H.inj _ _ _ _ _ _ hx1 hx1' g1 k1 he he' heq
 ·rintro b ⟨hb1,hb2⟩;obtain⟨q1,q2⟩:=H.fr b hb1;refine⟨by simp only[μ2];rw[u' hb2];exact q1,?_⟩;cases hx:cu (cC bs f h') hp' b with
  | none=>rfl
  | some x =>
   rcases hblk2 b x hx with⟨i,y,hi,hb,hy,rfl⟩|⟨hn,hx1⟩
   ·exfalso
    by_cases hik:i<h.length
    ·obtain⟨b0,x0,hd0,e1,e2,e3,e4,e5,e6⟩:=hbs i hik;rw[←e3,hb,q1]at e5;cases e5
    ·have e1:bj bs f i=f+(i-h.length):=by unfold bj;rw[u' (by omega),hl]
     rw[e1]at hb;omega
   ·rw[q2]at hx1;cases hx1
 ·refine⟨r4.os.trans H.keep.os,r4.tape.trans H.keep.tape,r4.output.trans H.keep.output,aF' H.keep.size r4.size,λk hk hno=>?_⟩;rw[←H.keep.block k hk hno];refine r4.block k (bj' hk H.keep.size) λho=>?_;obtain⟨b0,x0,hd0,k1,k2,k3,k4,k5⟩:=hown _ ho;obtain⟨hd',q5,_,q6⟩:=H.blk _ _ k2;rw[k3]at q5;cases q5
  rcases(q6 k4).2.2 with g|g
  ·exact hno (k5 ▸ g)
  ·omega
 ·intro b hb
  rcases r6 b hb with hq|hq|hq
  ·exact H.A1 b hq
  ·obtain⟨b0,x0,hd0,k1,k2,k3,k4,k5⟩:=hown _ hq;obtain⟨hd',q5,_,q6⟩:=H.blk _ _ k2;rw[k3]at q5;cases q5;rw[←k5];exact .inr (q6 k4).2.2
  ·exact .inr (.inr (aF' H.keep.size hq))
theorem bg.hand{P:Program}{n:Nat}{fid:FuncId}{args:List AV}{f:Nat}{hp:Hp}{r:AV}{h:List Blk}{h':List (Option Blk)}(hf:mI P fid)(hs:bc P fid args h r h')(bs:List Nat)
  (hl:bs.length=h.length) (hnd:bs.Nodup) (hargs:fP h.length args) (hblk:∀(i:Nat) (b:Nat) (x:Blk),bs[i]?=some b→h[i]?=some x→x.bel h.length∧hp b=some (x.ren (bj bs f)))
  (hk:h.length≤h'.length) (hk':h'.length≤h.length+16) (hr:r.bel h'.length) (hb':∀x,some x∈h'→x.bel h'.length) :
  bg P n fid (dm (bj bs f) args) f hp bs (r.ren (bj bs f)) (cC bs f h'):=by
 have key:=Mq.hand (n:=n) (f:=f) (hp:=hp) hf hs.toE bs hl hnd hargs hblk (λr0 h0=>by rintro⟨rfl,rfl⟩;exact⟨hk,hk',hr,hb'⟩);refine⟨key.1,λc A μ fr tm' hp' a w cargs H h1 h2 h3=>(key.2 c A μ fr tm' hp' a w cargs H h1 h2 h3).mono λe' w'=>?_⟩;rintro⟨_,_,⟨_,_,⟨rfl,rfl⟩,rfl,rfl⟩,q⟩;exact q
end Go.Am
namespace Go.Am
def gu(ops:Array Oper):Option (Nat×Bool)→Option (Option (Nat×Bool))
 | none=>some none
 | some (j,want)=>match (ops[j]?).bind (·.dst)with
  | some d=>some (some (d,want))
  | none=>none
def Ky(n:Nat):Option Nat→Bool
 | none=>true
 | some d=>decide (d<n)
def fL(P:Program)(n:Nat)(ops:Array Oper)(o:Oper):aN:=
  match gu ops o.guard with
  | some g=>if Ky n o.dst then { dst:=o.dst,op:=cOp P o.op o.type,guard:=g } else { dst:=none,op:=.bad,guard:=none }
  | none=>{ dst:=none,op:=.bad,guard:=none }
structure S2 where
  tm:Nat→AV
  hp:Hp
def exT(P:Program)(n:Nat)(o:aN)(f:Nat)(s:S2)(K:S2→Prop):Prop:=
 match o.op with
 | .call g xs=>∃fid caps foot v e,evO s.tm g=.func fid caps∧(bg P n fid (xs.map (evO s.tm)++caps) f s.hp foot v e∨(Mn P n fid (xs.map (evO s.tm)++caps) s.hp foot v∧e=cY))∧K ⟨aO o.dst v s.tm,cu e s.hp⟩
 | .lit k N z ps=>((evA (.lit k N z ps) f (evO s.tm) s.hp).c∧K ⟨aO o.dst (evA (.lit k N z ps) f (evO s.tm) s.hp).v s.tm,s.hp⟩)∨((evL k N z ps f (evO s.tm)).c∧K ⟨aO o.dst (evL k N z ps f (evO s.tm)).v s.tm,bQ (evL k N z ps f (evO s.tm)) s.hp⟩)
 | .isNil ptr ne x=>mc ptr (evO s.tm x)∧∀t,tW s.hp (evO s.tm x) t→K ⟨aO o.dst (.bool (t != ne)) s.tm,s.hp⟩
 | .rng x=>∃(b:Nat) (kk:Option Nat) (ks:List MK) (vs:List AV) (st:List Nat) (ck:Nat),evO s.tm x=.mref b∧s.hp b=some (.mst kk ks vs st ck)∧K ⟨aO o.dst (.ref f 0) s.tm,upd s.hp f (some (.itr b st ck []))⟩
 | .ent x=>∃(r m ck i s0:Nat) (kk:Option Nat) (ks:List MK) (vs:List AV) (st seen:List Nat) (q:MK) (v:AV),evO s.tm x=.ref r 0∧s.hp r=some (.itr m st ck (seen++[s0]))∧s.hp m=some (.mst kk ks vs st ck)∧st[i]?=some s0∧ks[i]?=some q∧vs[i]?=some v∧kOk q∧K ⟨aO o.dst (.tup [kAV q,v]) s.tm,s.hp⟩
 | .nxt x=>∃(r m ck:Nat) (kk:Option Nat) (ks:List MK) (vs:List AV) (st seen:List Nat),evO s.tm x=.ref r 0∧s.hp r=some (.itr m st ck seen)∧s.hp m=some (.mst kk ks vs st ck)∧(∀q∈ks,kOk q)∧((∀s∈st,s∈seen)→K ⟨aO o.dst (.tup [.bool false]) s.tm,s.hp⟩) ∧
   ∀(i:Nat) (q:MK) (v:AV) (s0:Nat),ks[i]?=some q→vs[i]?=some v→st[i]?=some s0→s0 ∉ seen→K ⟨aO o.dst (.tup [.bool true,kAV q,v]) s.tm,upd (upd s.hp r none) r (some (.itr m st ck (seen++[s0])))⟩
 | op=>(evA op f (evO s.tm) s.hp).c∧K ⟨aO o.dst (evA op f (evO s.tm) s.hp).v s.tm,bQ (evA op f (evO s.tm) s.hp) s.hp⟩
def gv:AV→Option (Option Bool)
 | .val (.bool t)=>some (some t)
 | .tup []=>some none
 | _=>none
def evT(P:Program)(n:Nat):List aN→Nat→S2→(S2→Nat→Prop)→Prop
 | [],f,s,K=>K s f
 | o::os,f,s,K=>match o.guard with
  | none=>exT P n o f s λs'=>evT P n os (f+16) s' K
  | some (d,want)=>∃t,gv (s.tm d)=some t∧(t=some want→exT P n o f s λs'=>evT P n os (f+16) s' K)∧(¬t=some want→evT P n os (f+16) ⟨aO o.dst (.tup []) s.tm,s.hp⟩ K)
theorem Kq{P:Program}{n:Nat}{o:Oper}{f:Nat}{s:S2}{K:S2→Prop}(hd:∀d,o.dst=some d→d<n){g:Option (Nat×Bool)}(h:exT P n { dst:=o.dst,op:=cOp P o.op o.type,guard:=g } f s K) :
    (∃rd v e,gX P n o f s.tm s.hp rd v e∧K ⟨aO o.dst v s.tm,cu e s.hp⟩) ∨
      (∃ptr ne x,cOp P o.op o.type=.isNil ptr ne x∧mc ptr (evO s.tm x)∧∀t,tW s.hp (evO s.tm x) t→K ⟨aO o.dst (.bool (t != ne)) s.tm,s.hp⟩) ∨
      ∃x,cOp P o.op o.type=.nxt x∧exT P n { dst:=o.dst,op:=.nxt x,guard:=g } f s K:=by
  have h00:=h;unfold exT at h;simp only at h
  split at h
  · rename_i gg xs hop
    obtain⟨fid,caps,foot,v,e,h1,h2,h3⟩:=h
    rcases h2 with h2|⟨h2,rfl⟩
    · exact .inl ⟨foot,v,e,vz hop hd h1 h2,h3⟩
    · exact .inl ⟨foot,v,cY,BO hop hd h1 h2,h3⟩
  · rename_i k N z ps hop
    rcases h with⟨h1,h2⟩|⟨h1,h2⟩
    · exact .inl ⟨_,_,_,BP hd (by rw[hop];exact h1),by rw[dh,hop];exact h2⟩
    · exact .inl ⟨_,_,_,Qj hop hd h1,by rw[dh];exact h2⟩
  · grind
  · rename_i x hop
    obtain⟨b,kk,ks,vs,st,ck,h1,h2,h3⟩:=h;exact .inl ⟨_,_,_,MC hop hd h1 h2,by rw[dh];exact h3⟩
  · rename_i x hop
    obtain⟨r,m,ck,i,s0,kk,ks,vs,st,seen,q,v,h1,h2,h3,h4,h5,h6,h7,h8⟩:=h;exact .inl ⟨_,_,cY,MF hop hd h1 h2 h3 h4 h5 h6 h7,h8⟩
  · simp_all
  · rename_i op hop
    obtain⟨h1,h2⟩:=h;exact .inl ⟨_,_,_,BP hd h1,by rw[dh];exact h2⟩
theorem Ag{ops:Array Oper}{a:Act}{j d:Nat}{t want:Bool}(hj:(ops[j]?).bind (·.dst)=some d)(hv:a.tmps.getD d undef=.bool t):yielded ops a.tmps j=some t:=by
 have hlt:d<a.tmps.size:=by
  rcases cn' d a.tmps.size with h|h
  ·exact h
  ·simp[Array.getD,show ¬d<a.tmps.size by omega,undef]at hv
 simp_all [yielded,bool,undef,Array.getD]
theorem xk{ops:Array Oper}{a:Act}{j d:Nat}{t:Option Bool}{w:World}{A:Nat→Prop}{μ:Mu}{x:AV}(hj:(ops[j]?).bind (·.dst)=some d)(hv:RV w A x μ (a.tmps.getD d undef))(hg:gv x=some t):yielded ops a.tmps j=t:=by
 unfold gv at hg
 split at hg
 ·cases hg;exact Ag (want:=true) hj hv.1
 ·cases hg;obtain⟨vs,h1,h2⟩:=hv;simp only[RVL]at h2;subst h2;unfold yielded;rw[hj];simp only[Option.bind_some]
  rcases cn' d a.tmps.size with hlt|hge
  ·simp_all
  ·simp_all
 ·cases hg
def gS:aN:={ dst:=none,op:=.bad,guard:=none }
theorem om(P:Program)(n:Nat)(ops:Array Oper)(o:Oper):fL P n ops o=gS ∨
    ∃g,gu ops o.guard=some g∧(∀d,o.dst=some d→d<n)∧fL P n ops o={ dst:=o.dst,op:=cOp P o.op o.type,guard:=g }:=by
  unfold fL;cases hg:gu ops o.guard with
  | none=>exact .inl rfl
  | some g =>
    by_cases hd:Ky n o.dst=true
    · refine .inr ⟨g,rfl,?_,by simp only[hd,↓reduceIte]⟩
      grind [Ky]
    · left;simp only[hd];rfl
theorem qk{P:Program}{n:Nat}{ops:Array Oper}{Q:Exit→Act→World→Prop}{c:Ctx}(K:S2→Nat→Prop)(rest:List Oper)
    (hK:∀s f a w A μ,K s f→aA P c A μ (λb=>f≤b) s.tm s.hp n a w→wpList P ops Q rest a w) :
    ∀(l:List Oper) (f:Nat) (s:S2) (a:Act) (w:World) (A:Nat→Prop) (μ:Mu),evT P n (l.map (fL P n ops)) f s K→aA P c A μ (λb=>f≤b) s.tm s.hp n a w→wpList P ops Q (l++rest) a w
  | [],f,s,a,w,A,μ,h,H=>hK s f a w A μ h H
  | o::l,f,s,a,w,A,μ,h,H=>by
    have next:∀(tm':Nat→AV) (hp':Hp) a' w' A' μ',evT P n (l.map (fL P n ops)) (f+16) ⟨tm',hp'⟩ K→aA P c A' μ' (λb=>f≤b∧¬(f≤b∧b<f+16)) tm' hp' n a' w'→wpList P ops Q (l++rest) a' w':=by
      intro tm' hp' a' w' A' μ' h1 h2;exact qk K rest hK l (f+16) ⟨tm',hp'⟩ a' w' A' μ' h1 (h2.free λb hb=>⟨by omega,λh=>by omega⟩)
    have run:∀g,(∀d,o.dst=some d→d<n)→exT P n { dst:=o.dst,op:=cOp P o.op o.type,guard:=g } f s (λs'=>evT P n (l.map (fL P n ops)) (f+16) s' K)→o.wp P a w (wpList P ops Q (l++rest)) Q:=by
      intro g hd hx
      rcases Kq hd hx with⟨rd,v,e,h1,h2⟩|⟨ptr,ne,x,h1,h2,h3⟩|⟨x,h1,r,m,ck,kk,ks,vs,st,seen,g1,g2,g3,g4,g5,g6⟩
      · exact h1 c A μ (λb=>f≤b) s.tm s.hp a w (wpList P ops Q (l++rest)) Q H (λ_ _=>rfl) (λ_ _=>rfl) (λj _=>by omega) (λa' w' A' μ' hr=>next _ _ a' w' A' μ' h2 hr)
      · exact ME h1 hd h2 H (λt ht a' hr=>next _ _ a' w A μ (h3 t ht) (hr.free λb hb=>hb.1))
      · exact MD h1 hd g1 g2 g3 g4 H (λhs a' hr=>next _ _ a' w A μ (g5 hs) (hr.free λb hb=>hb.1)) (λi q v s0 e1 e2 e3 e4 a' w' hr=>next _ _ a' w' A μ (g6 i q v s0 e1 e2 e3 e4) (hr.free λb hb=>hb.1))
    rw[au']at h
    rcases om P n ops o with hb|⟨g,hg,hd,hb⟩
    · grind [evT,gS,exT,evA,Out.bad]
    rw[hb]at h;simp only[evT]at h;show wpList P ops Q (o::(l++rest)) a w;unfold wpList;cases hgd:o.guard with
    | none =>
      rw[hgd]at hg;simp[gu]at hg;subst hg;rw[if_pos (by simp[Region.wanted,hgd])];exact .inl (run none hd h)
    | some jw =>
      obtain⟨j,want⟩:=jw;rw[hgd]at hg;simp only[gu]at hg;split at hg
      case h_2=>cases hg
      rename_i d hj;cases hg;obtain⟨t,h1,h2,h3⟩:=h;have hy:=xk hj (H.tm d) h1
      by_cases ht:t=some want
      · grind [Region.wanted]
      · rw[u' (by simp[Region.wanted,hgd,hy,ht])]
        exact next _ _ _ _ A μ (h3 ht) ((H.put (v:=.tup []) (cv:=undef) o.dst hd ⟨[],rfl,rfl⟩).free λb hb=>hb.1)
theorem Fl{P:Program}{n:Nat}{ops:Array Oper}{Q:Exit→Act→World→Prop}{c:Ctx}(K:S2→Nat→Prop)
  (hK:∀s f a w A μ,K s f→aA P c A μ (λb=>f≤b) s.tm s.hp n a w→Q .normal a w)
  (l:List Oper) (f:Nat) (s:S2) (a:Act) (w:World) (A:Nat→Prop) (μ:Mu) (h:evT P n (l.map (fL P n ops)) f s K) (H:aA P c A μ (λb=>f≤b) s.tm s.hp n a w):wpList P ops Q l a w:=by
 have:=qk (c:=c) K [] (λs f a w A μ h1 h2=>hK s f a w A μ h1 h2) l f s a w A μ h H
 rwa [az']at this
def cm:AOp→Bool
 | .load _ _ _|.store _ _ _|.convBS _|.slice _ _ _ _ _|.iaddr _ _ _|.len _|.append _ _ _ _|.appendS _ _ _|.box _|.mks _ _ _ _ _|.call _ _|.cap _|.appendZ _ _ _ _ _|.copy _ _ _|.clear _ _ _|.isNil _ _ _|.lit _ _ _ _|.mkm _|.mset _ _ _ _|.mget _ _ _ _ _|.mlen _|.mdel _ _ _=>true
 | _=>false
theorem xx{op:AOp}(h:cm op=false){f:Nat}{ρ:AO→AV}{hp hp':Hp}:evA op f ρ hp=evA op f ρ hp'∧(evA op f ρ hp).rm=none∧(evA op f ρ hp).ad=none:=by
 cases op<;>simp[cm]at h
 all_goals first
  | exact⟨rfl,rfl,rfl⟩
  | exact⟨rfl,(fU _ _ _).1,(fU _ _ _).2⟩
  | exact⟨rfl,(iU _ _ _).1,(iU _ _ _).2⟩
  | exact⟨rfl,(lJ _ _).1,(lJ _ _).2⟩
  | exact⟨rfl,(fb _ _).1,(fb _ _).2⟩
  | (refine⟨rfl,?_⟩;simp only[evA];(repeat' split)<;>exact⟨rfl,rfl⟩)
def rdH(op:AOp)(tm:Nat→AV):List Nat:=if cm op then RA op tm else []
def wrH(o:Out):List Nat:=o.rm.toList++(o.ad.toList.map (·.1))
theorem Ha{P:Program}{n:Nat}{o:Oper}{f:Nat}{tm:Nat→AV}{hp:Hp}(hd:∀d,o.dst=some d→d<n)(hc:(evA (cOp P o.op o.type) f (evO tm) hp).c) :
  gX P n o f tm hp (rdH (cOp P o.op o.type) tm) (evA (cOp P o.op o.type) f (evO tm) hp).v (fE (evA (cOp P o.op o.type) f (evO tm) hp)):=by
 unfold rdH
 split
 ·grind [BP]
 ·rename_i hh;have hh:cm (cOp P o.op o.type)=false:=by simpa using hh
  intro c A μ fr tm' hp' a w K Q H h1 h2 h3 hK;have e:=xx hh (f:=f) (ρ:=evO tm) (hp:=hp) (hp':=hp');rw[e.1]at hc hK;refine BP hd hc c A μ fr tm' hp' a w K Q H h1 (λb hb=>rfl) h3 ?_;omega
theorem vd{o:Out}{b:Nat}(h:fE o b≠none):b∈wrH o:=by
 unfold fE at h;unfold wrH
 grind
abbrev Log:=List (List Nat×List Nat)
def exD(P:Program)(n:Nat)(o:aN)(f:Nat)(s:S2)(K:S2→List Nat×List Nat→Prop):Prop:=
 match o.op with
 | .lit k N z ps=>((evA (.lit k N z ps) f (evO s.tm) s.hp).c∧K ⟨aO o.dst (evA (.lit k N z ps) f (evO s.tm) s.hp).v s.tm,s.hp⟩ (rdH (.lit k N z ps) s.tm,[]))∨((evL k N z ps f (evO s.tm)).c∧K ⟨aO o.dst (evL k N z ps f (evO s.tm)).v s.tm,bQ (evL k N z ps f (evO s.tm)) s.hp⟩ ([],[f]))
 | .call g xs=>∃fid caps foot v e wr,evO s.tm g=.func fid caps∧(bg P n fid (xs.map (evO s.tm)++caps) f s.hp foot v e∨(Mn P n fid (xs.map (evO s.tm)++caps) s.hp foot v∧e=cY))∧(∀b,e b≠none→b∈wr)∧K ⟨aO o.dst v s.tm,cu e s.hp⟩ (foot,wr)
 | op=>(evA op f (evO s.tm) s.hp).c∧K ⟨aO o.dst (evA op f (evO s.tm) s.hp).v s.tm,bQ (evA op f (evO s.tm) s.hp) s.hp⟩ (rdH op s.tm,wrH (evA op f (evO s.tm) s.hp))
def evD(P:Program)(n:Nat):List aN→Nat→S2→Log→(S2→Nat→Log→Prop)→Prop
 | [],f,s,lg,K=>K s f lg
 | o::os,f,s,lg,K=>match o.guard with
  | none=>exD P n o f s λs' l=>evD P n os (f+16) s' (lg++[l]) K
  | some (d,want)=>∃t,gv (s.tm d)=some t∧(t=some want→exD P n o f s λs' l=>evD P n os (f+16) s' (lg++[l]) K)∧(¬t=some want→evD P n os (f+16) ⟨aO o.dst (.tup []) s.tm,s.hp⟩ (lg++[([],[])]) K)
def Pg(xs ys:List Nat):Bool:=xs.all λx=>!ys.contains x
def vT(par:List (Nat×Nat))(lg:Log):Bool:=par.all λp =>
 Pg (lg.getD p.1 ([],[])).2 ((lg.getD p.2 ([],[])).1++(lg.getD p.2 ([],[])).2) && Pg (lg.getD p.2 ([],[])).2 (lg.getD p.1 ([],[])).1
def dW{β:Type}(f0:Nat→β)(g:Nat→Nat→Option β)(D:Nat→Bool):Nat→Nat→β
 | 0,x=>f0 x
 | k+1,x=>if D k then(g k x).getD (dW f0 g D k x)else dW f0 g D k x
theorem kh{β:Type}{f0:Nat→β}{g:Nat→Nat→Option β}{D D':Nat→Bool}{x:Nat}:∀{k:Nat},(∀j,j<k→g j x≠none→D j=D' j)→dW f0 g D k x=dW f0 g D' k x
 | 0,_=>rfl
 | k+1,h=>by
  have ih:=kh (f0:=f0) (g:=g) (D:=D) (D':=D') (x:=x) (k:=k) λj hj=>h j (by omega)
  grind [dW]
theorem fV{β:Type}{f0:Nat→β}{g:Nat→Nat→Option β}{D:Nat→Bool}{x i:Nat}:∀{k:Nat},i≤k→(∀j,i≤j→j<k→g j x≠none→D j=false)→dW f0 g D k x=dW f0 g D i x
  | 0, h, _ => by have : i = 0 := by omega
                  subst this;rfl
  | k+1,h,hD=>by
    by_cases hi:i=k+1
    · subst hi;rfl
    · rw[←fV (k:=k) (by omega) λj h1 h2=>hD j h1 (by omega)]
      grind [dW]
structure Dat where
  go:Bool
  v:AV
  e:Eff
  rd:List Nat
  wr:List Nat
  deriving Inhabited
section
variable (dsts : Nat → Option Nat) (ds : Nat → Dat) (s0 : S2)
def gT(i t:Nat):Option AV:=if dsts i=some t then some (ds i).v else none
def gH(i b:Nat):Option (Option Blk):=(ds i).e b
def stP(D:Nat→Bool)(k:Nat):S2:=⟨dW s0.tm (gT dsts ds) D k,dW s0.hp (gH ds) D k⟩
end
theorem Hb(dsts:Nat→Option Nat)(ds:Nat→Dat)(s0:S2)(D:Nat→Bool)(k:Nat)(h:D k=true) :
  stP dsts ds s0 D (k+1)=⟨aO (dsts k) (ds k).v (stP dsts ds s0 D k).tm,cu (ds k).e (stP dsts ds s0 D k).hp⟩:=by
 unfold stP
 congr 1
 ·funext x
  simp only[dW,h,↓reduceIte,gT];cases hd:dsts k with
  | none=>simp[aO]
  | some d =>
   by_cases e:d=x
   ·simp_all [aO,upd]
   ·have:¬x=d:=λh=>e h.symm;simp[aO,upd,e,this]
 ·grind [dW,reduceIte,gH,cu]
end Go.Am
namespace Go.Am
def lu(o:Oper):List Nat:=(o.after.toList.filter (Region.binds .any)).map (·.on)
def xT(acc:List Nat)(es:List Nat):Nat:=es.foldl (λm e=>m ||| (1 <<< e) ||| acc.getD e 0) 0
def eS:List (List Nat)→List Nat→List Nat
 | [],acc=>acc
 | es::E,acc=>eS E (acc++[xT acc es])
def jT(o:aN):List Nat:=(o.op.opers.filterMap fun|.t t=>some t|.c _=>none)++(match o.guard with|some (d,_)=>[d]|none=>[])
def ia(x y:aN):Bool:=
 (match x.dst with|some d=>!(jT y).contains d && y.dst != some d|none=>true) && (match y.dst with|some d=>!(jT x).contains d|none=>true)
def gR(cl:List Nat)(j i:Nat):Bool:=(cl.getD i 0).testBit j
def vN(E:List (List Nat))(cl:List Nat)(xs:List aN):Bool:=
 (E.zipIdx.all λ(es,i)=>es.all λe=>decide (e<i)) &&
 (List.range xs.length).all λi=>(List.range i).all λj=>gR cl j i || ia (xs.getD j gS) (xs.getD i gS)
def vU(cl:List Nat)(xs:List aN):List (Nat×Nat):=
 (List.range xs.length).flatMap λi=>(List.range i).filterMap λj =>
  if !gR cl j i && cm (xs.getD j gS).op && cm (xs.getD i gS).op then some (j,i)else none
theorem k8(acc:List Nat)(j:Nat):∀(es:List Nat) (m:Nat),(es.foldl (λm e=>m ||| (1 <<< e) ||| acc.getD e 0) m).testBit j=true →
  m.testBit j=true∨∃e∈es,j=e∨(acc.getD e 0).testBit j=true
 | [],m,h=>.inl h
 | e::es,m,h=>by
  rcases k8 acc j es _ h with h|⟨e',h1,h2⟩
  ·simp only[Nat.testBit_or,bU']at h
   rcases h with(h|h)|h
   ·exact .inl h
   ·refine .inr ⟨e,by simp,.inl ?_⟩;rw[Nat.one_shiftLeft,Nat.testBit_two_pow]at h;simpa using(H' h).symm
   ·exact .inr ⟨e,by simp,.inr h⟩
  ·grind
theorem og:∀(E:List (List Nat)) (acc:List Nat) (i:Nat),i<acc.length→(eS E acc).getD i 0=acc.getD i 0
 | [],acc,i,_=>rfl
 | es::E,acc,i,h=>by
  rw[eS,og E _ i (by simp;omega)]
  grind
theorem DJ:∀(E:List (List Nat)) (acc:List Nat) (k:Nat) (es:List Nat),E[k]?=some es →
  (eS E acc).getD (acc.length+k) 0=xT ((eS E acc).take (acc.length+k)) es
 | [],acc,k,es,h=>by simp at h
 | es0::E,acc,0,es,h=>by
  simp at h;subst h;rw[eS,og E _ _ (by simp)];have h1:(eS E (acc++[xT acc es0])).take (acc.length+0)=acc:=by
   have:∀(E:List (List Nat)) (b acc:List Nat),∃t,eS E (acc++b)=acc++t:=by
    intro E
    induction E with
    | nil=>intro b acc;exact⟨b,rfl⟩
    | cons e E ih=>intro b acc;rw[eS,bo'];exact ih _ _
   obtain⟨t,ht⟩:=this E [xT acc es0] acc;rw[ht];simp
  simp_all
 | es0::E,acc,k+1,es,h=>by
  rw[eS];have:=DJ E (acc++[xT acc es0]) k es (by simpa using h)
  grind
theorem xJ{E:List (List Nat)}{i j:Nat}{es:List Nat}(hE:E[i]?=some es)(h:gR (eS E []) j i=true):∃e∈es,j=e∨(e<i∧gR (eS E []) j e=true):=by
 have h1:=DJ E [] i es hE;simp only[aC',aB']at h1;unfold gR at h;rw[h1]at h
 rcases k8 _ j es 0 h with h|⟨e,he,h⟩
 ·simp at h
 ·grind [gR,eS,List.getD]
theorem qo{E:List (List Nat)}{D:Nat→Bool}(hD:∀i es,E[i]?=some es→D i=true→∀e∈es,D e=true):∀(i j:Nat),i<E.length→gR (eS E []) j i=true→D i=true→D j=true:=by
 intro i
 induction i using Nat.strongRecOn with
 | _ i ih =>
  intro j hi h hDi;have hE:E[i]?=some E[i]:=E' hi
  obtain⟨e,he,h|⟨hlt,h⟩⟩:=xJ hE h
  ·grind
  ·grind
def va(P:Program)(n:Nat)(ops:Array Oper)(f0:Nat)(ds:Nat→Dat)(s0:S2)(i:Nat):Prop:=
  ∃o,ops[i]?=some o∧(∀d,o.dst=some d→d<n)∧(∃g,fL P n ops o={ dst:=o.dst,op:=cOp P o.op o.type,guard:=g }∧gu ops o.guard=some g) ∧
    (match o.guard with
      | none=>(ds i).go=true
      | some (j,want)=>∃d t,(ops[j]?).bind (·.dst)=some d∧gv ((stP (λi=>(ops[i]?).bind (·.dst)) ds s0 (λ_=>true) i).tm d)=some t∧(ds i).go=decide (t=some want)) ∧
    ((ds i).go=true→gX P n o (f0+16 * i) (stP (λi=>(ops[i]?).bind (·.dst)) ds s0 (λ_=>true) i).tm (stP (λi=>(ops[i]?).bind (·.dst)) ds s0 (λ_=>true) i).hp (ds i).rd (ds i).v (ds i).e) ∧
    ((ds i).go=false→(ds i).v=.tup []∧(ds i).e=cY∧(ds i).rd=[])∧(∀b,(ds i).e b≠none→b∈(ds i).wr) ∧
    (cm (cOp P o.op o.type)=false→(ds i).rd=[]∧(ds i).e=cY)
theorem mP{dsts:Nat→Option Nat}{ds ds':Nat→Dat}{s0:S2}{D:Nat→Bool}:∀{k:Nat},(∀i,i<k→ds i=ds' i)→stP dsts ds s0 D k=stP dsts ds' s0 D k:=by
 intro k h;have h1:∀(k x:Nat),(∀i,i<k→ds i=ds' i)→dW s0.tm (gT dsts ds) D k x=dW s0.tm (gT dsts ds') D k x:=by
  intro k x
  induction k with
  | zero=>intro _;rfl
  | succ k ih=>intro h;simp only[dW,ih λi hi=>h i (by omega),gT,h k (by omega)]
 have h2:∀(k x:Nat),(∀i,i<k→ds i=ds' i)→dW s0.hp (gH ds) D k x=dW s0.hp (gH ds') D k x:=by
  intro k x
  induction k with
  | zero=>intro _;rfl
  | succ k ih=>intro h;simp only[dW,ih λi hi=>h i (by omega),gH,h k (by omega)]
 unfold stP;rw[show dW s0.tm (gT dsts ds) D k=dW s0.tm (gT dsts ds') D k from funext λx=>h1 k x h,show dW s0.hp (gH ds) D k=dW s0.hp (gH ds') D k from funext λx=>h2 k x h]
theorem va.congr{P:Program}{n:Nat}{ops:Array Oper}{f0:Nat}{ds ds':Nat→Dat}{s0:S2}{i:Nat}(h:∀j,j≤i→ds j=ds' j)(hg:va P n ops f0 ds s0 i):va P n ops f0 ds' s0 i:=by
 unfold va at *
 rw[←mP (ds:=ds) (ds':=ds') (k:=i) λj hj=>h j (by omega),←h i (V' _)];exact hg
def im(ds:Nat→Dat)(k:Nat):Log:=(List.range k).map λi=>((ds i).rd,(ds i).wr)
theorem zQ(ds:Nat→Dat)(k:Nat):im ds (k+1)=im ds k++[((ds k).rd,(ds k).wr)]:=by simp[im,List.range_succ]
theorem w7{ds ds':Nat→Dat}{k:Nat}(h:∀i,i<k→ds i=ds' i):im ds k=im ds' k:=by simp_all [im]
theorem xt{P:Program}{n:Nat}{o:Oper}{f:Nat}{s:S2}{K:S2→List Nat×List Nat→Prop}(hd:∀d,o.dst=some d→d<n){g:Option (Nat×Bool)}(h:exD P n { dst:=o.dst,op:=cOp P o.op o.type,guard:=g } f s K) :
    ∃rd wr v e,gX P n o f s.tm s.hp rd v e∧(∀b,e b≠none→b∈wr)∧(cm (cOp P o.op o.type)=false→rd=[]∧e=cY)∧K ⟨aO o.dst v s.tm,cu e s.hp⟩ (rd,wr):=by
  unfold exD at h;simp only at h
  split at h
  · rename_i k N z ps hop
    rcases h with⟨h1,h2⟩|⟨h1,h2⟩
    · refine⟨rdH (.lit k N z ps) s.tm,[],_,_,by rw[←hop];exact Ha hd (by rw[hop];exact h1),λb hb=>?_,λhh=>by rw[hop]at hh;simp[cm]at hh,by rw[dh,hop];exact h2⟩
      rw[hop]at hb;exact absurd rfl hb
    · refine⟨[],[f],_,_,Qj hop hd h1,λb hb=>?_,λhh=>by rw[hop]at hh;simp[cm]at hh,by rw[dh];exact h2⟩
      have:=vd hb;simpa[wrH,evL]using this
  · rename_i gg xs hop
    obtain⟨fid,caps,foot,v,e,wr,h1,h2,h3,h4⟩:=h
    rcases h2 with h2|⟨h2,rfl⟩
    · grind [vz,cm]
    · grind [cY,BO,cm]
  · rename_i op hop
    obtain⟨h1,h2⟩:=h;refine⟨_,_,_,_,Ha hd h1,λb hb=>vd hb,λhh=>?_,by rw[dh];exact h2⟩
    grind [xx,evO,rdH,fE,cY]
theorem xw{P:Program}{n:Nat}{ops:Array Oper}{f0:Nat}{s0:S2}{K:S2→Nat→Log→Prop} :
  ∀(l:List Oper) (k:Nat) (ds:Nat→Dat),k≤ops.size→ops.toList.drop k=l→(∀i,i<k→va P n ops f0 ds s0 i) →
   evD P n (l.map (fL P n ops)) (f0+16 * k) (stP (λi=>(ops[i]?).bind (·.dst)) ds s0 (λ_=>true) k) (im ds k) K →
   ∃ds',(∀i,i<ops.size→va P n ops f0 ds' s0 i)∧K (stP (λi=>(ops[i]?).bind (·.dst)) ds' s0 (λ_=>true) ops.size) (f0+16 * ops.size) (im ds' ops.size)
 | [],k,ds,hle,hl,hg,h=>by
  have hk:k=ops.size:=by
   have:=congrArg List.length hl;simp at this;omega
  subst hk;exact⟨ds,hg,h⟩
 | o::l,k,ds,hle,hl,hg,h=>by
  have hlt:k<ops.size:=by
   have:=congrArg List.length hl;simp at this;omega
  have ho:ops[k]?=some o:=by
   have:(ops.toList.drop k)[0]?=some o:=by rw[hl];rfl
   grind
  have hl':ops.toList.drop (k+1)=l:=by rw[←List.drop_drop,hl];rfl
  -- one more datum
  have next:∀d:Dat,va P n ops f0 (upd ds k d) s0 k→evD P n (l.map (fL P n ops)) (f0+16 * k+16) ⟨aO o.dst d.v (stP (λi=>(ops[i]?).bind (·.dst)) ds s0 (λ_=>true) k).tm,cu d.e (stP (λi=>(ops[i]?).bind (·.dst)) ds s0 (λ_=>true) k).hp⟩ (im ds k++[(d.rd,d.wr)]) K →
    ∃ds',(∀i,i<ops.size→va P n ops f0 ds' s0 i)∧K (stP (λi=>(ops[i]?).bind (·.dst)) ds' s0 (λ_=>true) ops.size) (f0+16 * ops.size) (im ds' ops.size):=by
   intro d h1 h2;have hpre:∀i,i<k→ds i=upd ds k d i:=λi hi=>by rw[az _ _ (by omega)]
   refine xw l (k+1) (upd ds k d) (by omega) hl' (λi hi=>?_) ?_
   ·by_cases hik:i=k
    ·simp_all
    ·exact(hg i (by omega)).congr λj hj=>hpre j (by omega)
   ·rw[Hb _ _ _ _ _ rfl,zQ,←mP hpre,←w7 hpre]
    grind [ai]
  have hst:∀d:Dat,stP (λi=>(ops[i]?).bind (·.dst)) (upd ds k d) s0 (λ_=>true) k=stP (λi=>(ops[i]?).bind (·.dst)) ds s0 (λ_=>true) k:=
   λd=>mP λi hi=>az _ _ (by omega)
  rw[au']at h
  rcases om P n ops o with hb|⟨g,hgd,hd,hb⟩
  ·grind [evD,gS,exD,evA,Out.bad]
  rw[hb]at h;simp only[evD]at h;cases hgo:o.guard with
  | none =>
   have hg0:g=none:=by grind [gu]
   subst hg0;simp only at h;obtain⟨rd,wr,v,e,e1,e2,e3,e4⟩:=xt hd h
   refine next ⟨true,v,e,rd,wr⟩ ⟨o,ho,hd,⟨_,hb,hgd⟩,?_,?_,?_,?_,?_⟩ e4
   ·grind [ai]
   ·grind [ai]
   ·grind [ai]
   ·grind [ai]
   ·grind [ai]
  | some jw =>
   obtain⟨j,want⟩:=jw;rw[hgo]at hgd;simp only[gu]at hgd;split at hgd
   case h_2=>cases hgd
   rename_i d hj;cases hgd;obtain⟨t,h1,h2,h3⟩:=h
   by_cases ht:t=some want
   ·obtain⟨rd,wr,v,e,e1,e2,e3,e4⟩:=xt hd (h2 ht)
    refine next ⟨true,v,e,rd,wr⟩ ⟨o,ho,hd,⟨_,hb,?_⟩,?_,?_,?_,?_,?_⟩ e4
    ·grind [gu]
    ·grind [ai]
    ·grind [ai]
    ·grind [ai]
    ·grind [ai]
    ·grind [ai]
   ·refine next ⟨false,.tup [],cY,[],[]⟩ ⟨o,ho,hd,⟨_,hb,?_⟩,?_,?_,?_,?_,?_⟩ ?_
    ·grind [gu]
    ·grind [ai]
    ·grind [ai]
    ·intro _;rw[ai];exact⟨rfl,rfl,rfl⟩
    ·rw[ai];intro b hb;exact absurd rfl hb
    ·intro _;rw[ai];exact⟨rfl,rfl⟩
    ·grind [xe]
end Go.Am
namespace Go.Am
section
variable {P : Program} {n : Nat} {ops : Array Oper} {f0 : Nat} {ds : Nat → Dat} {s0 : S2}
def dV(P:Program)(n:Nat)(ops:Array Oper):List aN:=ops.toList.map (fL P n ops)
def bS(ops:Array Oper):List (List Nat):=ops.toList.map lu
def dO(ops:Array Oper)(i:Nat):Option Nat:=(ops[i]?).bind (·.dst)
structure iX (P:Program) (n:Nat) (ops:Array Oper) (f0:Nat) (ds:Nat→Dat) (s0:S2):Prop where
  good:∀i,i<ops.size→va P n ops f0 ds s0 i
  reg:vN (bS ops) (eS (bS ops) []) (dV P n ops)=true
  par:vT (vU (eS (bS ops) []) (dV P n ops)) (im ds ops.size)=true
theorem oM{i:Nat}{o:Oper}(h:ops[i]?=some o):(dV P n ops).getD i gS=fL P n ops o:=by grind [dV,List.getD]
theorem j7{i:Nat}{o:Oper}(h:ops[i]?=some o):(bS ops)[i]?=some (lu o):=by grind [bS]
theorem iX.lt(S:iX P n ops f0 ds s0){i:Nat}{es:List Nat}(h:(bS ops)[i]?=some es):∀e∈es,e<i:=by
 have:=S.reg;unfold vN at this;simp only[aJ',ba']at this;have h1:=this.1 (es,i) (by
  rw[aQ'];refine⟨i,?_⟩;rw[List.getElem?_zipIdx,h];simp)
 simp_all
theorem iX.slots(S:iX P n ops f0 ds s0){i j:Nat}{x y:Oper}(hi:ops[i]?=some y)(hj:ops[j]?=some x)(hlt:j<i) :
  gR (eS (bS ops) []) j i=true∨ia (fL P n ops x) (fL P n ops y)=true:=by
 have:=S.reg;unfold vN at this;simp only[aJ',ba',aZ']at this;have hil:i<(dV P n ops).length:=by grind [dV]
 have h1:=this.2 i hil j hlt;rw[oM hi,oM hj]at h1;simpa using h1
theorem sL{xs ys:List Nat}(h:Pg xs ys=true){b:Nat}(hx:b∈xs):b ∉ ys:=by grind [Pg]
theorem Jd{k i:Nat}(h:i<k):(im ds k).getD i ([],[])=((ds i).rd,(ds i).wr):=by grind [im,List.getD]
theorem iX.heap(S:iX P n ops f0 ds s0){i j:Nat}(hi:i<ops.size)(hlt:j<i)(hnd:gR (eS (bS ops) []) j i=false)(b:Nat) :
  ((ds j).e b≠none→b ∉ (ds i).rd∧(ds i).e b=none)∧((ds i).e b≠none→b ∉ (ds j).rd):=by
 obtain⟨y,hy,hdy,⟨gy,cy,cgy⟩,_,_,_,wy,fy⟩:=S.good i hi;obtain⟨x,hx,hdx,⟨gx,cx,cgx⟩,_,_,_,wx,fx⟩:=S.good j (by omega)
 by_cases hyh:cm (cOp P y.op y.type)=true
 ·by_cases hxh:cm (cOp P x.op x.type)=true
  ·have hp:=S.par;unfold vT at hp;have hm:(j,i)∈vU (eS (bS ops) []) (dV P n ops):=by
    unfold vU;refine bQ'.2 ⟨i,aZ'.2 (by simpa[dV]using hi),List.mem_filterMap.2 ⟨j,aZ'.2 hlt,?_⟩⟩;rw[oM hy,oM hx,cy,cx,hnd];simp[hyh,hxh]
   have:=(ba'.1 hp) _ hm;simp only[aJ',Jd hi,Jd (show j<ops.size by omega)]at this;refine⟨λh=>?_,λh=>sL this.2 (wy b h)⟩;have h1:=sL this.1 (wx b h)
   grind
  ·have:=fx (by simpa using hxh);exact⟨λh=>absurd (by rw[this.2];rfl) h,λ_=>by rw[this.1];simp⟩
 ·have:=fy (by simpa using hyh);exact⟨λ_=>⟨by rw[this.1];simp,by rw[this.2];rfl⟩,λh=>absurd (by rw[this.2];rfl) h⟩
def lD(ops:Array Oper)(D:Nat→Bool):Prop:=∀i es,(bS ops)[i]?=some es→D i=true→∀e∈es,D e=true
theorem iX.before(S:iX P n ops f0 ds s0){D:Nat→Bool}(hD:lD ops D){i j:Nat}{es:List Nat}(hi:(bS ops)[i]?=some es)(hr:∀e∈es,D e=true)(h:gR (eS (bS ops) []) j i=true):D j=true:=by
 obtain⟨e,he,h|⟨hlt,h⟩⟩:=xJ hi h
 ·simp_all
 ·refine qo hD e j ?_ h (hr e he)
  grind
theorem iX.after(S:iX P n ops f0 ds s0){D:Nat→Bool}(hD:lD ops D){i j:Nat}(hj:j<ops.size)(hi:D i=false)(h:gR (eS (bS ops) []) i j=true):D j=false:=by
 cases hdj:D j with
 | false=>rfl
 | true =>
  have:=qo hD j i (by simpa[bS]using hj) h hdj;rw[hi]at this;cases this
theorem iX.tm(S:iX P n ops f0 ds s0){D:Nat→Bool}(hD:lD ops D){i:Nat}{o:Oper}(ho:ops[i]?=some o)(hi:D i=false)(hr:∀e∈lu o,D e=true){t:Nat}(ht:t∈jT (fL P n ops o)) :
  (stP (dO ops) ds s0 D ops.size).tm t=(stP (dO ops) ds s0 (λ_=>true) i).tm t:=by
 have hlt:i<ops.size:=(bb'.1 ho).1;show dW s0.tm (gT (dO ops) ds) D ops.size t=dW s0.tm (gT (dO ops) ds) (λ_=>true) i t;have w:∀j,j<ops.size→j≠i→gT (dO ops) ds j t≠none→(j<i→D j=true)∧(i<j→D j=false):=by
  intro j hj hne hg;have hdj:dO ops j=some t:=by
   unfold gT at hg
   simp_all
  have hoj:ops[j]?=some ops[j]:=aX' hj;have hd':ops[j].dst=some t:=by simpa[dO,hoj]using hdj
  obtain⟨x,hx,hdx,⟨gx,cx,cgx⟩,_⟩:=S.good j hj;rw[hoj]at hx;cases hx
  refine⟨λhji=>?_,λhij=>?_⟩
  ·rcases S.slots ho hoj hji with h|h
   ·exact S.before hD (j7 ho) hr h
   ·grind [ia]
  ·rcases S.slots hoj ho hij with h|h
   ·exact S.after hD hj hi h
   ·grind [ia]
 rw[fV (i:=i) (by omega) (λj h1 h2 hg=>?_)]
 ·refine kh λj hj hg=>?_
  grind
 ·grind
theorem iX.hp(S:iX P n ops f0 ds s0){D:Nat→Bool}(hD:lD ops D){i:Nat}{o:Oper}(ho:ops[i]?=some o)(hi:D i=false)(hr:∀e∈lu o,D e=true){b:Nat}(hb:b∈(ds i).rd) :
  (stP (dO ops) ds s0 D ops.size).hp b=(stP (dO ops) ds s0 (λ_=>true) i).hp b:=by
 have hlt:i<ops.size:=(bb'.1 ho).1;show dW s0.hp (gH ds) D ops.size b=dW s0.hp (gH ds) (λ_=>true) i b;have w:∀j,j<ops.size→j≠i→gH ds j b≠none→(j<i→D j=true)∧(i<j→D j=false):=by
  intro j hj hne hg
  refine⟨λhji=>?_,λhij=>?_⟩
  ·cases hdep:gR (eS (bS ops) []) j i with
   | true=>exact S.before hD (j7 ho) hr hdep
   | false=>exact absurd hb ((S.heap hlt hji hdep b).1 hg).1
  ·cases hdep:gR (eS (bS ops) []) i j with
   | true=>exact S.after hD hj hi hdep
   | false=>exact absurd hb ((S.heap hj hij hdep b).2 hg)
 rw[fV (i:=i) (by omega) (λj h1 h2 hg=>?_)]
 ·refine kh λj hj hg=>?_
  grind
 ·grind
theorem iX.add(S:iX P n ops f0 ds s0){D:Nat→Bool}(hD:lD ops D){i:Nat}{o:Oper}(ho:ops[i]?=some o)(hi:D i=false){D':Nat→Bool}(hD':∀j,D' j=(D j || j==i)) :
  (stP (dO ops) ds s0 D' ops.size).tm=aO o.dst (ds i).v (stP (dO ops) ds s0 D ops.size).tm∧(stP (dO ops) ds s0 D' ops.size).hp=cu (ds i).e (stP (dO ops) ds s0 D ops.size).hp:=by
 have hlt:i<ops.size:=(bb'.1 ho).1;have hdi:dO ops i=o.dst:=by simp[dO,ho]
 have hDi:D' i=true:=by rw[hD' i];simp
 have hne:∀j,j≠i→D' j=D j:=by simp_all
 have gen:∀{β:Type} (f:Nat→β) (g:Nat→Nat→Option β) (x:Nat),(g i x≠none→∀j,j<ops.size→i<j→g j x≠none→D j=false) →
   dW f g D' ops.size x=(g i x).getD (dW f g D ops.size x):=by
  intro β f g x hw;cases hg:g i x with
  | none =>
   rw[Option.getD_none];refine kh λj hj hgj=>?_
   by_cases h:j=i
   ·simp_all
   ·exact hne j h
  | some v =>
   rw[cd',fV (i:=i+1) (by omega) (λj h1 h2 h3=>?_)]
   ·grind [dW,reduceIte]
   ·grind
 constructor
 ·funext t
  have h1:=gen s0.tm (gT (dO ops) ds) t (λh0 j hj hij hg=>by
   have hdi':o.dst=some t:=by
    unfold gT at h0
    simp_all
   have hdj:dO ops j=some t:=by
    unfold gT at hg
    simp_all
   have hoj:ops[j]?=some ops[j]:=aX' hj;have hd':ops[j].dst=some t:=by simpa[dO,hoj]using hdj
   obtain⟨x,hx,hdx,⟨gx,cx,cgx⟩,_⟩:=S.good j hj;rw[hoj]at hx;cases hx;obtain⟨y,hy,hdy,⟨gy,cy,cgy⟩,_⟩:=S.good i hlt;rw[ho]at hy;cases hy
   rcases S.slots hoj ho hij with h|h
   ·exact S.after hD hj hi h
   ·exfalso;unfold ia at h;rw[cx,cy]at h;simp only[hd',hdi',aJ']at h;have:=h.1.2;simp at this)
  show dW s0.tm (gT (dO ops) ds) D' ops.size t=aO o.dst (ds i).v (λx=>dW s0.tm (gT (dO ops) ds) D ops.size x) t;rw[h1];unfold gT;rw[hdi];cases hd:o.dst with
  | none=>simp[aO]
  | some d =>
   by_cases e:d=t
   ·simp_all [aO,upd]
   ·have:¬t=d:=λh=>e h.symm;simp[aO,upd,e,this]
 ·funext b
  have h1:=gen s0.hp (gH ds) b (λh0 j hj hij hg=>by
   cases hdep:gR (eS (bS ops) []) i j with
   | true=>exact S.after hD hj hi hdep
   | false=>exact absurd ((S.heap hj hij hdep b).1 h0).2 hg)
  show dW s0.hp (gH ds) D' ops.size b=cu (ds i).e (λx=>dW s0.hp (gH ds) D ops.size x) b
  grind [gH,cu]
end
end Go.Am
namespace Go.Am
theorem sM{p q:Nat→Bool}:∀(l:List Nat),(∀x∈l,p x=true→q x=true)→∀i∈l,q i=true→p i=false→l.countP p<l.countP q
 | [],_,i,hi,_,_=>by simp at hi
 | x::l,h,i,hi,hq,hp=>by
  have hle:∀(l:List Nat),(∀x∈l,p x=true→q x=true)→l.countP p≤l.countP q:=λl h=>List.countP_mono_left h;rw[List.countP_cons,List.countP_cons]
  by_cases hx:x=i
  ·grind
  ·have hi':i∈l:=by simpa[Ne.symm hx]using hi
   have:=sM l (λy hy=>h y (by simp[hy])) i hi' hq hp
   grind
def unl(N:Nat)(listed:Array Bool):Nat:=(List.range N).countP λi=>!listed.getD i true
section
variable {P : Program} {n : Nat} {ops : Array Oper} {f0 : Nat} {ds : Nat → Dat} {s0 : S2} {Q : Exit → Act → World → Prop} {c : Ctx}
def Dl(listed:Array Bool):Nat→Bool:=λi=>listed.getD i false
def frD(ops:Array Oper)(f0:Nat)(D:Nat→Bool)(b:Nat):Prop:=f0≤b∧∀k,k<ops.size→D k=true→¬(f0+16 * k≤b∧b<f0+16 * k+16)
theorem mV{listed:Array Bool}{i:Nat}:i∈Region.ready .any ops listed↔i<ops.size∧listed.getD i true=false∧∃o,ops[i]?=some o∧∀e∈lu o,Dl listed e=true:=by
 unfold Region.ready;simp only[aA',aZ',aJ',be']
 constructor
 ·rintro⟨h1,h2,h3⟩;refine⟨h1,h2,ops[i],aX' h1,?_⟩;rw[aX' h1]at h3;simp only[ah',cd',Array.all_eq_true]at h3;intro e he;unfold lu at he;simp only[R',aA']at he;obtain⟨x,⟨hx,hb⟩,rfl⟩:=he
  grind [Array.mem_iff_getElem,Dl]
 ·rintro⟨h1,h2,o,h3,h4⟩;refine⟨h1,h2,?_⟩;rw[h3];simp only[ah',cd',Array.all_eq_true];intro k hk;cases hb:Region.binds .any o.after[k]with
  | false=>simp
  | true =>
   have:=h4 o.after[k].on (by
    unfold lu;simp only[R',aA'];exact⟨_,⟨Array.mem_toList_iff.2 (Array.getElem_mem hk),hb⟩,rfl⟩)
   simpa[Dl]using this
theorem Br(S:iX P n ops f0 ds s0){listed:Array Bool}(hsz:listed.size=ops.size)(h:Region.ready .any ops listed=[]):∀i,i<ops.size→Dl listed i=true:=by
 intro i
 induction i using Nat.strongRecOn with
 | _ i ih =>
  intro hi;cases hd:Dl listed i with
  | true=>rfl
  | false =>
   exfalso;have:i∈Region.ready .any ops listed:=by
    refine mV.2 ⟨hi,?_,ops[i],aX' hi,λe he=>ih e ?_ ?_⟩
    ·simp_all [Dl,Array.getD]
    ·exact S.lt (j7 (aX' hi)) e he
    ·have:=S.lt (j7 (aX' hi)) e he;omega
   rw[h]at this;simp at this
theorem FV(S:iX P n ops f0 ds s0)(hQ:∀a w A μ,aA P c A μ (λb=>f0+16 * ops.size≤b) (stP (dO ops) ds s0 (λ_=>true) ops.size).tm (stP (dO ops) ds s0 (λ_=>true) ops.size).hp n a w→Q .normal a w) :
  ∀(fuel:Nat) (listed:Array Bool) (a:Act) (w:World) (A:Nat→Prop) (μ:Mu),listed.size=ops.size→lD ops (Dl listed)→unl ops.size listed≤fuel →
   aA P c A μ (frD ops f0 (Dl listed)) (stP (dO ops) ds s0 (Dl listed) ops.size).tm (stP (dO ops) ds s0 (Dl listed) ops.size).hp n a w→wpAny P .any ops Q fuel listed a w:=by
 have done:∀(listed:Array Bool) (a:Act) (w:World) (A:Nat→Prop) (μ:Mu),(∀i,i<ops.size→Dl listed i=true) →
   aA P c A μ (frD ops f0 (Dl listed)) (stP (dO ops) ds s0 (Dl listed) ops.size).tm (stP (dO ops) ds s0 (Dl listed) ops.size).hp n a w→Q .normal a w:=by
  intro listed a w A μ hall H;have e1:stP (dO ops) ds s0 (Dl listed) ops.size=stP (dO ops) ds s0 (λ_=>true) ops.size:=by
   unfold stP
   congr 1
   ·grind [kh]
   ·grind [kh]
  rw[e1]at H;exact hQ a w A μ (H.free λb hb=>⟨by omega,λk hk _ h=>by omega⟩)
 intro fuel
 induction fuel with
 | zero =>
  intro listed a w A μ hsz hcl hu H;have hall:∀i,i<ops.size→Dl listed i=true:=by simp_all [unl,Array.getD,Dl]
  refine⟨?_,done listed a w A μ hall H⟩;cases hr:Region.ready .any ops listed with
  | nil=>rfl
  | cons i l =>
   exfalso;obtain⟨h1,h2,_⟩:=mV.1 (show i∈Region.ready .any ops listed by rw[hr];simp);have:=hall i h1;have hlt:i<listed.size:=by omega
   have e1:listed.getD i true=listed[i]:=by simp_all
   have e2:listed.getD i false=listed[i]:=by simp_all
   unfold Dl at this;rw[e2,←e1,h2]at this;cases this
 | succ fuel ih =>
  intro listed a w A μ hsz hcl hu H;refine⟨λhr=>done listed a w A μ (Br S hsz hr) H,λi hi=>?_⟩;obtain⟨hlt,hun,o,ho,hr⟩:=mV.1 hi;have hll:i<listed.size:=by omega
  have hDi:Dl listed i=false:=by simp_all [Array.getD,Dl]
  have hD':∀j,Dl (listed.setIfInBounds i true) j=(Dl listed j || j==i):=by
   intro j;unfold Dl
   by_cases hji:j=i
   ·simp_all
   ·have h1:(j==i)=false:=by simpa using hji
    rw[h1,Bool.or_false];simp only[bB',bL' (Ne.symm hji)]
  have hcl':lD ops (Dl (listed.setIfInBounds i true)):=by
   intro k es hk hDk e he;rw[hD']at hDk ⊢
   by_cases hki:k=i
   ·grind [j7]
   ·have h1:(k==i)=false:=by simpa using hki
    rw[h1,Bool.or_false]at hDk;rw[hcl k es hk hDk e he];rfl
  have hunl:unl ops.size (listed.setIfInBounds i true)≤fuel:=by
   have:unl ops.size (listed.setIfInBounds i true)<unl ops.size listed:=by
    unfold unl;refine sM _ (λx hx h=>?_) i (aZ'.2 hlt) (by simp[hun]) (by simp[Array.getD,hll])
    by_cases hxi:x=i
    ·simp_all
    ·simpa only[bB',bL' (Ne.symm hxi)]using h
   omega
  obtain⟨t1,t2⟩:=S.add hcl ho hDi hD';have hfr:∀b,frD ops f0 (Dl (listed.setIfInBounds i true)) b→frD ops f0 (Dl listed) b∧¬(f0+16 * i≤b∧b<f0+16 * i+16):=by
   rintro b ⟨h1,h2⟩;refine⟨⟨h1,λk hk hDk=>h2 k hk (by rw[hD',hDk];rfl)⟩,h2 i hlt (by rw[hD'];simp)⟩
  obtain⟨o',ho',hdn,⟨g,hco,hcg⟩,hgu,hgo,hng,hwr,_⟩:=S.good i hlt;rw[ho]at ho';cases ho';have hslots:∀t,t∈jT (fL P n ops o)→(stP (dO ops) ds s0 (Dl listed) ops.size).tm t=(stP (dO ops) ds s0 (λ_=>true) i).tm t:=λt ht=>S.tm hcl ho hDi hr ht;unfold wpOp;rw[ho];simp only;have hgo2:(Region.wanted o (yielded ops a.tmps))=(ds i).go:=by
   cases hgd:o.guard with
   | none=>rw[hgd]at hgu;simp[Region.wanted,hgd,hgu]
   | some jw =>
    obtain⟨j,want⟩:=jw;rw[hgd]at hgu;obtain⟨d,t,h1,h2,h3⟩:=hgu;rw[hgd]at hcg;simp only[gu,h1]at hcg;cases hcg;have hs:=hslots d (by rw[hco];simp[jT]);have h2':gv ((stP (dO ops) ds s0 (λ_=>true) i).tm d)=some t:=h2;rw[←hs]at h2';have:=xk h1 (H.tm d) h2';rw[h3];simp only[Region.wanted,hgd,this];by_cases htw:t=some want<;>simp[htw]
  rw[hgo2];cases hg:(ds i).go with
  | true =>
   simp only[↓reduceIte];left
   refine hgo hg c A μ (frD ops f0 (Dl listed)) (stP (dO ops) ds s0 (Dl listed) ops.size).tm (stP (dO ops) ds s0 (Dl listed) ops.size).hp a w _ Q H ?_ ?_ ?_ ?_
   ·intro t ht;refine hslots t ?_;rw[hco];unfold jT
    grind
   ·intro b hb;exact S.hp hcl ho hDi hr hb
   ·intro j hj;refine⟨by omega,λk hk hDk h=>?_⟩
    grind
   ·intro a' w' A' μ' hr';refine ih _ a' w' A' μ' (by simpa using hsz) hcl' hunl ?_;rw[t1,t2];exact hr'.free λb hb=>hfr b hb
  | false =>
   simp only[bk',↓reduceIte];obtain⟨q1,q2,q3⟩:=hng hg;refine ih _ _ w A μ (by simpa using hsz) hcl' hunl ?_;rw[t1,t2,q1,q2,xe];exact(H.put (v:=.tup []) (cv:=undef) o.dst hdn ⟨[],rfl,rfl⟩).free λb hb=>(hfr b hb).1
end
end Go.Am
namespace Go.Am
def Tl(P:Program)(n:Nat)(ops:Array Oper)(draw:Bool):AC:=
 if draw then
  (if P.follows .mixedOrders && vN (bS ops) (eS (bS ops) []) (dV P n ops)then .dreg (dV P n ops) (vU (eS (bS ops) []) (dV P n ops))else .bad)
 else .reg (dV P n ops)
def eF(P:Program)(n:Nat):Code→AC
 | .skip=>.skip
 | .region _ ops draw=>Tl P n ops draw
 | .seq a b=>.seq (eF P n a) (eF P n b)
 | .cond c x y=>.cond (cO P c) (eF P n x) (eF P n y)
 | .block id c=>.block id (eF P n c)
 | .loop c=>.loop (eF P n c)
 | .exit id=>.exit id
 | .ret=>.ret
 | .scope c=>.scope (eF P n c)
 | .label _=>.label
 | _=>.bad
structure S3 where
  tm:Nat→AV
  hp:Hp
  nx:Nat
def Rel(P:Program)(k:Nat)(c:Ctx)(n:Nat)(s:S3)(a:Act)(w:World):Prop:=
 (∀b,k≤b→c.mu b=none)∧∃A μ,aA P c A μ (λb=>s.nx≤b) s.tm s.hp n a w
inductive X where
  | normal
  | exit (id:Nat)
  | ret
def post(P:Program)(k:Nat)(c:Ctx)(n:Nat)(Q:X→S3→Prop):Exit→Act→World→Prop
 | .normal,a,w=>∃s,Q .normal s∧Rel P k c n s a w
 | .exit id,a,w=>∃s,Q (.exit id) s∧Rel P k c n s a w
 | .ret,a,w=>∃s,Q .ret s∧Rel P k c n s a w
 | _,_,_=>False
def AWP(P:Program)(k n:Nat)(ac:AC)(Q:X→S3→Prop)(s:S3):Prop:=
 ∀code,eF P n code=ac→∀c a w,Rel P k c n s a w→code.wp P (post P k c n Q) a w
def vy(K:S3→Prop)(Q:X→S3→Prop):X→S3→Prop
 | .normal,s=>K s
 | e,s=>Q e s
def wZ(id:Nat)(Q:X→S3→Prop):X→S3→Prop
 | .exit id',s=>if id'=id then Q .normal s else Q (.exit id') s
 | e,s=>Q e s
section
variable {P : Program} {k n : Nat} {Q : X → S3 → Prop} {s : S3}
theorem dI{ops:Array Oper}{draw:Bool}{ac:AC}(h:Tl P n ops draw=ac):ac=.bad∨(draw=false∧ac=.reg (dV P n ops)) ∨
  (draw=true∧P.follows .mixedOrders=true∧vN (bS ops) (eS (bS ops) []) (dV P n ops)=true∧ac=.dreg (dV P n ops) (vU (eS (bS ops) []) (dV P n ops))):=by
 unfold Tl at h;cases draw with
 | false=>simp at h;exact .inr (.inl ⟨rfl,h.symm⟩)
 | true =>
  simp only[↓reduceIte]at h
  split at h
  ·simp_all
  ·simp_all
theorem AWP.skip(h:Q .normal s):AWP P k n .skip Q s:=by
 intro code hc c a w H
 cases code<;>simp only[eF]at hc<;>try cases hc
 ·exact wp_skip ⟨s,h,H⟩
 ·rcases dI hc with h'|⟨_,h'⟩|⟨_,_,_,h'⟩<;>cases h'
theorem AWP.exit{id:Nat}(h:Q (.exit id) s):AWP P k n (.exit id) Q s:=by
 intro code hc c a w H
 cases code<;>simp only[eF]at hc<;>try cases hc
 ·rcases dI hc with h'|⟨_,h'⟩|⟨_,_,_,h'⟩<;>cases h'
 ·exact wp_exit ⟨s,h,H⟩
theorem AWP.ret(h:Q .ret s):AWP P k n .ret Q s:=by
 intro code hc c a w H
 cases code<;>simp only[eF]at hc<;>try cases hc
 ·rcases dI hc with h'|⟨_,h'⟩|⟨_,_,_,h'⟩<;>cases h'
 ·exact wp_ret ⟨s,h,H⟩
theorem AWP.seq{x y:AC}(h:AWP P k n x (vy (AWP P k n y Q) Q) s):AWP P k n (.seq x y) Q s:=by
 intro code hc c a w H
 cases code<;>simp only[eF]at hc<;>try cases hc
 ·rcases dI hc with h'|⟨_,h'⟩|⟨_,_,_,h'⟩<;>cases h'
 ·rename_i x' y';refine wp_seq (wp_mono (h x' rfl c a w H) ?_);intro e a' w' hq;cases e with
  | normal =>
   obtain⟨s',h1,h2⟩:=hq;exact h1 y' rfl c a' w' h2
  | exit id=>exact hq
  | ret=>exact hq
  | _=>exact hq.elim
theorem AWP.cond{cc:AO}{x y:AC}{b:Bool}(hb:evO s.tm cc=.val (.bool b))(hx:b=true→AWP P k n x Q s)(hy:b=false→AWP P k n y Q s):AWP P k n (.cond cc x y) Q s:=by
 intro code hc c a w H
 cases code<;>simp only[eF]at hc<;>try cases hc
 ·rcases dI hc with h'|⟨_,h'⟩|⟨_,_,_,h'⟩<;>cases h'
 ·rename_i c' x' y';obtain⟨h0,A,μ,hr⟩:=H;have hv:=hr.ev c';rw[hb]at hv;obtain⟨hv,_⟩:=hv;exact wp_cond_split hv (λe=>hx e x' rfl c a w ⟨h0,A,μ,hr⟩) (λe=>hy e y' rfl c a w ⟨h0,A,μ,hr⟩)
theorem AWP.block{id:Nat}{x:AC}(h:AWP P k n x (wZ id Q) s):AWP P k n (.block id x) Q s:=by
 intro code hc c a w H
 cases code<;>simp only[eF]at hc<;>try cases hc
 ·rcases dI hc with h'|⟨_,h'⟩|⟨_,_,_,h'⟩<;>cases h'
 ·rename_i x';refine wp_block (wp_mono (h x' rfl c a w H) ?_);intro e a' w' hq;cases e with
  | normal=>exact hq
  | exit id' =>
   obtain⟨s',h1,h2⟩:=hq;simp only[wZ]at h1;simp only[Exit.inBlock]
   split
   ·rename_i e;rw[if_pos e]at h1;exact⟨s',h1,h2⟩
   ·rename_i e;rw[u' e]at h1;exact⟨s',h1,h2⟩
  | ret=>exact hq
  | _=>exact hq.elim
theorem AWP.scope{x:AC}(h:AWP P k n x Q s):AWP P k n (.scope x) Q s:=by
 intro code hc c a w H
 cases code<;>simp only[eF]at hc<;>try cases hc
 ·rcases dI hc with h'|⟨_,h'⟩|⟨_,_,_,h'⟩<;>cases h'
 ·rename_i x';refine wp_scope_straight (wp_mono (h x' rfl c a w H) ?_);intro e a' w' hq;cases e with
  | goto l=>exact hq.elim
  | _=>exact hq
theorem AWP.label(h:Q .normal s):AWP P k n .label Q s:=by
 intro code hc c a w H
 cases code<;>simp only[eF]at hc<;>try cases hc
 ·rcases dI hc with h'|⟨_,h'⟩|⟨_,_,_,h'⟩<;>cases h'
 ·exact wp_label ⟨s,h,H⟩
theorem AWP.mono{x:AC}{Q':X→S3→Prop}(h:AWP P k n x Q s)(hq:∀e s,Q e s→Q' e s):AWP P k n x Q' s:=by
 intro code hc c a w H;refine wp_mono (h code hc c a w H) ?_;intro e a' w' h';cases e with
 | normal=>obtain⟨s',h1,h2⟩:=h';exact⟨s',hq _ _ h1,h2⟩
 | exit id'=>obtain⟨s',h1,h2⟩:=h';exact⟨s',hq _ _ h1,h2⟩
 | ret=>obtain⟨s',h1,h2⟩:=h';exact⟨s',hq _ _ h1,h2⟩
 | _=>exact h'.elim
def aF(k n:Nat)(s s':S3):Prop:=∀P c a w,Rel P k c n s a w→Rel P k c n s' a w
theorem aF.refl:aF k n s s:=λ_ _ _ _ h=>h
theorem aF.trans{s1 s2 s3:S3}(h:aF k n s1 s2)(h':aF k n s2 s3):aF k n s1 s3:=λP c a w H=>h' P c a w (h P c a w H)
theorem AWP.weak{x:AC}{s':S3}(hw:aF k n s s')(h:AWP P k n x Q s'):AWP P k n x Q s:=λcode hc c a w H=>h code hc c a w (hw P c a w H)
theorem Gc{c:Code}{Q:Exit→Act→World→Prop}(I:Nat→Act→World→Prop){m:Nat}{a:Act}{w:World}(h₀:I m a w)
  (round:∀m a w,I m a w→c.wp P (Exit.then (λa' w'=>∃m',m'<m∧I m' a' w') Q) a w):(Code.loop c).wp P Q a w:=by
 intro b k cs;have key:∀m a w,I m a w→∃e a' w',Q e a' w'∧Arrives P (lone (b.at a (.code c::.inLoop c::k)) cs w) b k cs e a' w':=by
  intro m
  induction m using Nat.strongRecOn with
  | _ m ih =>
   intro a w hI;obtain⟨e,a₁,w₁,hq,harr⟩:=round m a w hI b (.inLoop c::k) cs;cases e with
   | normal =>
    obtain⟨m',hlt,hI₁⟩:=hq;obtain⟨e₂,a₂,w₂,hq₂,harr₂⟩:=ih m' hlt a₁ w₁ hI₁;exact⟨e₂,a₂,w₂,hq₂,.of_steps (Steps.trans harr (.one step_inLoop)) harr₂⟩
   | exit id=>exact⟨_,a₁,w₁,hq,.pass (x:=.inLoop c) rfl (λ_ _=>.inl (by simp)) harr⟩
   | goto l=>exact⟨_,a₁,w₁,hq,.pass (x:=.inLoop c) rfl (λ_ _=>.inl (by simp)) harr⟩
   | ret=>exact⟨_,a₁,w₁,hq,.pass (x:=.inLoop c) rfl (λ_ _=>.inl (by simp)) harr⟩
   | panic ch=>exact⟨_,a₁,w₁,hq,.pass (x:=.inLoop c) rfl (λ_ _=>.inl (by simp)) harr⟩
   | outgrown=>exact⟨_,a₁,w₁,hq,.pass (x:=.inLoop c) rfl (λ_ _=>.inl (by simp)) harr⟩
 obtain⟨e,a',w',hq,harr⟩:=key _ a w h₀;exact⟨e,a',w',hq,.of_steps (.one step_loop) harr⟩
theorem AWP.loop{x:AC}(I:Nat→S3→Prop){m:Nat}(h0:∃s',aF k n s s'∧I m s')(round:∀m s,I m s→AWP P k n x (vy (λs'=>∃m' s'',m'<m∧aF k n s' s''∧I m' s'') Q) s):AWP P k n (.loop x) Q s:=by
 intro code hc c a w H
 cases code<;>simp only[eF]at hc<;>try cases hc
 ·rcases dI hc with h'|⟨_,h'⟩|⟨_,_,_,h'⟩<;>cases h'
 ·rename_i x';obtain⟨s',hw,hI⟩:=h0;refine Gc (λm a w=>∃s,I m s∧Rel P k c n s a w) (m:=m) ⟨s',hI,hw P c a w H⟩ ?_;rintro m a w ⟨s,hI,hr⟩;refine wp_mono (round m s hI x' rfl c a w hr) ?_;intro e a' w' hq;cases e with
  | normal =>
   obtain⟨s1,⟨m',s2,h1,h2,h3⟩,h4⟩:=hq;exact⟨m',h1,s2,h3,h2 P c a' w' h4⟩
  | exit id=>exact hq
  | ret=>exact hq
  | _=>exact hq.elim
theorem AWP.reg{ops:List aN}(h:evT P n ops s.nx ⟨s.tm,s.hp⟩ (λs' f=>Q .normal ⟨s'.tm,s'.hp,f⟩)):AWP P k n (.reg ops) Q s:=by
 intro code hc c a w H;cases code<;>simp only[eF]at hc<;>try cases hc
 rename_i id ops' draw
 rcases dI hc with h'|⟨hd,h'⟩|⟨_,_,_,h'⟩
 ·cases h'
 ·subst hd;cases h';obtain⟨h0,A,μ,hr⟩:=H;exact wp_region_list (Fl (c:=c) _ (λs' f a w A μ hK hr=>⟨⟨s'.tm,s'.hp,f⟩,hK,h0,A,μ,hr⟩) ops'.toList s.nx ⟨s.tm,s.hp⟩ a w A μ h hr)
 ·cases h'
theorem AWP.dreg{ops:List aN}{par:List (Nat×Nat)}(h:evD P n ops s.nx ⟨s.tm,s.hp⟩ [] (λs' f lg=>vT par lg=true∧Q .normal ⟨s'.tm,s'.hp,f⟩)):AWP P k n (.dreg ops par) Q s:=by
  intro code hc c a w H;cases code<;>simp only[eF]at hc<;>try cases hc
  rename_i id ops' draw
  rcases dI hc with h'|⟨hd,h'⟩|⟨hd,hm,hreg,h'⟩
  · cases h'
  · cases h'
  · subst hd
    cases h';obtain⟨h0,A,μ,hr⟩:=H;obtain⟨ds,g1,g2,g3⟩:=xw (P:=P) (n:=n) (ops:=ops') (f0:=s.nx) (s0:=⟨s.tm,s.hp⟩) ops'.toList 0 (λ_=>default) (aS' _) rfl (λi hi=>by omega) h;have S:iX P n ops' s.nx ds ⟨s.tm,s.hp⟩:=⟨g1,hreg,g2⟩
    refine wp_region_any hm ?_;have hDl:Dl (Array.replicate ops'.size false)=λ_=>false:=by
      funext i;unfold Dl;simp[Array.getD]
    have hst:stP (dO ops') ds ⟨s.tm,s.hp⟩ (λ_=>false) ops'.size=⟨s.tm,s.hp⟩:=by
      unfold stP
      congr 1
      · funext x;exact fV (i:=0) (aS' _) (λ_ _ _ _=>rfl)
      · funext x;exact fV (i:=0) (aS' _) (λ_ _ _ _=>rfl)
    refine FV (c:=c) S (λa w A μ hr=>⟨_,g3,h0,A,μ,hr⟩) ops'.size _ a _ A μ (by simp) ?_ ?_ ?_
    · rw[hDl];intro i es _ h;cases h
    · grind [unl,Nat.le_trans,List.countP_le_length]
    · rw[hDl,hst]
      obtain⟨r,_⟩:=hr.step (w':={ w with drawn:=w.drawn+1 }) rfl rfl rfl (V' _) s.hp (λ_ _ h=>h) (λ_ _ _=>rfl) (λ_=>False) (λ_ h=>h.elim);have hA:(λx=>A x∨False)=A:=by funext x;simp
      rw[hA]at r;exact r.free λb hb=>hb.1
end
end Go.Am
namespace Go.Am
section
variable {P : Program} {k n : Nat} {s s' : S3}
theorem aF.ren(π:Nat→Nat)(h1:∀t,s'.tm t=.unk∨(s.tm t=(s'.tm t).ren π∧(s'.tm t).bel s'.nx))(h2:∀b x,s'.hp b=some x→b<s'.nx∧s.hp (π b)=some (x.ren π)∧x.bel s'.nx)
  (h3:∀b b',s'.hp b≠none→s'.hp b'≠none→π b=π b'→b=b') (h4:∀b,b<k→π b=b) (h5:k≤s'.nx):aF k n s s':=by
 rintro P c a w ⟨h0,A,μ,H⟩;refine⟨h0,A,λb=>if b<s'.nx then μ (π b)else none,?_⟩;have hun:∀b,b<s'.nx→∀hd,μ (π b)=some hd→(if b<s'.nx then μ (π b)else none)=some hd:=λb hb hd e=>by rw[if_pos hb];exact e
 refine⟨λt=>?_,H.n,H.df,λb x hx=>?_,λb b' x x' hd hd' hx hx' hm hm' he he' heq=>?_,H.lt,λb hb=>?_,H.keep,H.A0,H.A1,λb hd hb=>?_⟩
 ·rcases h1 t with h|⟨e1,e2⟩
  ·rw[h];trivial
  ·have:=H.tm t;rw[e1]at this;exact RV.unren hun e2 this
 ·obtain⟨e1,e2,e3⟩:=h2 b x hx;obtain⟨hd,g1,g2,g3⟩:=H.blk _ _ e2;exact⟨hd,hun b e1 hd g1,g2.unren hun e3,g3⟩
 ·obtain⟨e1,e2,e3⟩:=h2 b x hx;obtain⟨f1,f2,f3⟩:=h2 b' x' hx';rw[if_pos e1]at hm;rw[if_pos f1]at hm';exact h3 b b' (by rw[hx];simp) (by rw[hx'];simp) (H.inj _ _ _ _ _ _ e2 f2 hm hm' he he' heq)
 ·refine⟨u' (by omega),?_⟩;cases hx:s'.hp b with
  | none=>rfl
  | some x=>have:=(h2 b x hx).1;omega
 ·have hbk:b<k:=by
   rcases cn' b k with h|h
   ·exact h
   ·rw[h0 b h]at hb;cases hb
  have:=H.mu b hd hb;show(if b<s'.nx then μ (π b)else none)=some hd;rw[if_pos (by omega),h4 b hbk];exact this
def bD(b:Nat)(hp:Hp)(x y:AV):Prop:=
 ∀(P:Program) (c:Ctx) (A:Nat→Prop) (μ:Mu) (fr:Nat→Prop) (tm':Nat→AV) (n:Nat) (a:Act) (w:World) (cv:Value),aA P c A μ fr tm' hp n a w →
  RV w A x μ cv→RV w (λk=>A k∨∃hd,μ b=some hd∧hd.emp=none∧hd.blk=k) y μ cv
def fB(b:Nat)(hp:Hp):List AV→List AV→Prop
 | [],[]=>True
 | x::xs,y::ys=>bD b hp x y∧fB b hp xs ys
 | _,_=>False
theorem fB.rvl{P:Program}{b:Nat}{hp:Hp}{c:Ctx}{A:Nat→Prop}{μ:Mu}{fr:Nat→Prop}{tm':Nat→AV}{n:Nat}{a:Act}{w:World}(H:aA P c A μ fr tm' hp n a w) :
  ∀{xs ys:List AV} {vs:List Value},fB b hp xs ys→RVL w A xs μ vs→RVL w (λk=>A k∨∃hd,μ b=some hd∧hd.emp=none∧hd.blk=k) ys μ vs
 | [],[],_,_,h=>h
 | x::xs,y::ys,_,hv,⟨v,vs',h1,h2,h3⟩=>⟨v,vs',h1,hv.1 P c A μ fr tm' n a w v H h2,fB.rvl H hv.2 h3⟩
 | [],_::_,_,hv,_=>hv.elim
 | _::_,[],_,hv,_=>hv.elim
theorem bD.refl{b:Nat}{hp:Hp}{x:AV}:bD b hp x x:=λP c A μ fr tm' n a w cv H hv=>hv.mono (cJ.refl A w) (λk h=>.inl h) x (bp.refl _)
theorem fB.refl{b:Nat}{hp:Hp}:∀{xs:List AV},fB b hp xs xs
 | []=>trivial
 | _::_=>⟨bD.refl,fB.refl⟩
theorem bD.agg{b:Nat}{hp:Hp}{xs ys:List AV}(h:fB b hp xs ys):bD b hp (.agg xs) (.agg ys):=by
 rintro P c A μ fr tm' n a w cv H ⟨vs,e1,e2,e3⟩;exact⟨vs,e1,h.rvl H e2,e3⟩
theorem bD.tup{b:Nat}{hp:Hp}{xs ys:List AV}(h:fB b hp xs ys):bD b hp (.tup xs) (.tup ys):=by
 rintro P c A μ fr tm' n a w cv H ⟨vs,e1,e2⟩;exact⟨vs,e1,h.rvl H e2⟩
theorem bD.func{b:Nat}{hp:Hp}{g:FuncId}{xs ys:List AV}(h:fB b hp xs ys):bD b hp (.func g xs) (.func g ys):=by
 rintro P c A μ fr tm' n a w cv H ⟨vs,e1,e2⟩;exact⟨vs,e1,h.rvl H e2⟩
theorem bD.ref{b off:Nat}{hp:Hp}{x:AV}(h:hp b=some (.box x))(hx:x.pure):bD b hp (.ref b off) (.rptr x off):=by
 intro P c A μ fr tm' n a w cv H hv;obtain⟨hd,e1,e2,rfl⟩:=hv;obtain⟨hd',v,ty,f1,f2,f3,f4,f5,f6⟩:=H.box h;rw[e1]at f1;cases f1;exact⟨hd.blk,0,v,by simp,.inr ⟨hd,e1,e2,rfl⟩,RV.pure hx (f4.mono (cJ.refl A w) (λb hb=>.inl hb) x (bp.refl _)),(RV.cells f3 f4).2,λp u hu=>f6 p u hu⟩
theorem bD.map{b:Nat}{kk:Option Nat}{hp:Hp}{ks:List MK}{vs:List AV}(h:hp b=some (.map kk ks vs))(hx:bU vs):bD b hp (.mref b) (.mp kk ks vs):=by
 intro P c A μ fr tm' n a w cv H hv;obtain⟨hd,e1,e2,rfl⟩:=hv;obtain⟨hd',ents,clock,g1,g2,g3,g4,g5,g6⟩:=H.mapBlk h;rw[e1]at g1;cases g1;exact⟨_,ents,clock,rfl,.inr ⟨hd,e1,e2,rfl⟩,g3,g4,RVL.pure hx (RVL.mono (cJ.refl A w) (λb hb=>.inl hb) vs (bp.refl _) g5),g6⟩
theorem bD.vec{b kk:Nat}{hp:Hp}{es:List AV}(h:hp b=some (.vec kk es))(hx:bU es):bD b hp (.vec b) (.sl kk es false):=by
 intro P c A μ fr tm' n a w cv H hv;obtain⟨hd,e1,rfl⟩:=hv;obtain⟨hd',f1,f2,f3⟩:=H.vec h;rw[e1]at f1;cases f1
 rcases f3 with⟨rfl,a',f3⟩|⟨g1,g2,g4,g5,C,ty,vs,k1,k2,k3,k4,k5,k6,k7⟩
 ·rw[Hd.val,f3];exact .inl ⟨rfl,a',rfl⟩
 ·have hv:hd.val=.slice (some ⟨hd.blk,0,none⟩) es.length hd.cap:=by rw[Hd.val,g1,g2]
  rw[hv];refine .inr ⟨hd.blk,0,hd.cap,vs,rfl,.inr ⟨hd,e1,g1,rfl⟩,by omega,g5,(λh=>by cases h),RVL.pure hx (RVL.mono (cJ.refl A w) (λb hb=>.inl hb) es (bp.refl _) k2),λv hv=>⟨k4 v hv,?_⟩,λp u hu=>by rw[aB'];exact k7 p u hu,k3⟩;obtain⟨i,hi⟩:=aQ'.1 hv;have hlt:i<es.length:=by rw[k2.length];exact(I'.1 hi).1
  have hxe:es[i]?=some es[i]:=E' hlt;exact(RV.cells (k3 _ (ay' hlt)) (k2.get2 hxe hi)).2
theorem aF.give(b:Nat)(hnx:s'.nx=s.nx)(h1:∀t,s'.tm t=.unk∨bD b s.hp (s.tm t) (s'.tm t))
  (h2:∀b' x,s'.hp b'=some x→b'≠b∧(s.hp b'=some x∨∃y z,s.hp b'=some (.box y)∧x=.box z∧z.solid=true∧bD b s.hp y z)) (hb:s.hp b≠none):aF k n s s':=by
 rintro P c a w ⟨h0,A,μ,H⟩;have hle:∀k,A k→A k∨∃hd,μ b=some hd∧hd.emp=none∧hd.blk=k:=λ_ h=>.inl h;have hlive:∃x hd,s.hp b=some x∧μ b=some hd∧(hd.emp=none→¬A hd.blk∧hd.blk<w.heap.size∧(c.own hd.blk∨c.w.heap.size≤hd.blk)):=by
  cases hx:s.hp b with
  | none=>exact absurd hx hb
  | some x=>obtain⟨hd,e1,_,e3⟩:=H.blk b x hx;exact⟨x,hd,rfl,e1,e3⟩
 obtain⟨xb,hdb,hxb,hmb,hpb⟩:=hlive;have hsub:∀b' x,s'.hp b'=some x→b'≠b∧∃y,s.hp b'=some y:=by grind
 refine⟨h0,λk=>A k∨∃hd,μ b=some hd∧hd.emp=none∧hd.blk=k,μ,λt=>?_,H.n,H.df,λb' x hx=>?_,λb1 b2 x x' hd hd' hx hx'=>?_,?_,λb' hb'=>?_,H.keep,λb' hb'=>.inl (H.A0 b' hb'),?_,H.mu⟩
 ·rcases h1 t with h|h
  ·rw[h];trivial
  ·exact h P c A μ _ s.tm n a w _ H (H.tm t)
 ·obtain⟨hne,y,hy⟩:=hsub b' x hx;obtain⟨hd,g1,g2,g3⟩:=H.blk b' y hy
  refine⟨hd,g1,?_,λhe=>⟨?_,(g3 he).2⟩⟩
  ·rcases(h2 b' x hx).2 with e|⟨yy,z,e1,e2,e3,e4⟩
   ·rw[hy]at e;cases e;exact g2.mono (cJ.refl A w) hle (bp.refl _) (λ_=>rfl)
   ·rw[hy]at e1;cases e1;subst e2;obtain⟨q1,q2,v,ty,q3,q4⟩:=g2;exact⟨q1,e3,v,ty,e4 P c A μ _ s.tm n a w v H q3,q4⟩
  ·rintro(h|⟨hd2,k1,k2,k3⟩)
   ·simp_all
   ·exact hne (H.inj _ _ _ _ _ _ hy hxb g1 k1 he k2 k3.symm)
 ·obtain⟨_,y,hy⟩:=hsub b1 x hx;obtain⟨_,y',hy'⟩:=hsub b2 x' hx';exact H.inj _ _ _ _ _ _ hy hy'
 ·refine H.lt.mono (cJ.refl A w) hle ?_
  rintro k (h|⟨hd,k1,k2,rfl⟩)
  ·exact H.lt k h
  ·simp_all
 ·rw[hnx]at hb';obtain⟨q1,q2⟩:=H.fr b' hb';refine⟨q1,?_⟩;cases hx:s'.hp b' with
  | none=>rfl
  | some x=>obtain⟨_,y,hy⟩:=hsub b' x hx;rw[q2]at hy;cases hy
 ·rintro k (h|⟨hd,k1,k2,rfl⟩)
  ·exact H.A1 k h
  ·simp_all
end
def FM(P:Program):ResultVar→Option AR
 | .tmp t=>some (.tmp t)
 | .cell t ty=>match P.underlying ty,sizeOf? P ty with
  | some _,some s=>some (.cell t (eU P ty) s)
  | _,_=>none
def jD(P:Program)(fn:Func):Option AF:=match fn.body with
  | none=>none
  | some c=>match fn.results.toList.mapM (FM P)with
    | none=>none
    | some rs=>some { n:=fn.ntmps,np:=fn.params.size+fn.nfree,res:=rs,body:=eF P fn.ntmps c }
def NJ(s:S3):AR→Option AV
 | .tmp t=>some (s.tm t)
 | .cell t agg size=>match s.tm t with
  | .ref b off=>match s.hp b with
   | some (.box y)=>if off+size≤y.cells.length∧(agg=false→size=1)∧y.solid=true then some (fo y off size agg)else none
   | _=>none
  | _=>none
def kO(s:S3):List AR→Option (List AV)
 | []=>some []
 | r::rs=>match NJ s r,kO s rs with
  | some x,some xs=>some (x::xs)
  | _,_=>none
def o6:List AV→AV
 | [x]=>x
 | xs=>.tup xs
def zY(n:Nat)(args:List AV)(h:List Blk):S3:=⟨λt=>args.getD t .unk,bo (h.map some),h.length⟩
section
variable {P : Program} {c : Ctx} {A : Nat → Prop} {μ : Mu} {fr : Nat → Prop} {n : Nat} {a : Act} {w : World}
def HJ(tmps:Array Value):ResultVar→Sem Value
 | .tmp t=>pure (tmps.getD t undef)
 | .cell b t=>do loadVar t (←asAddr (tmps.getD b undef))
theorem zt(fn:Func)(tmps:Array Value):results fn tmps=(do let vs ←fn.results.mapM (HJ tmps);pure (if h:vs.size=1 then vs[0]else .tuple vs)):=by
 unfold results
 congr 1
theorem HL{s:S3}(H:aA P c A μ fr s.tm s.hp n a w){r:ResultVar}{ar:AR}(hr:FM P r=some ar){x:AV}(hx:NJ s ar=some x) :
  ∃v,(HJ a.tmps r).run P w=.ok v w∧RV w A x μ v:=by
 cases r with
 | tmp t =>
  simp only[FM,aK']at hr;subst hr;simp only[NJ,aK']at hx;subst hx;exact⟨_,rfl,H.tm t⟩
 | cell b t =>
  simp only[FM]at hr;split at hr
  case h_2=>cases hr
  rename_i d sz hu hs;cases hr;simp only[NJ]at hx;split at hx
  case h_2=>cases hx
  rename_i bb off htm;split at hx
  case h_2=>cases hx
  rename_i y hy;split at hx
  case isFalse=>cases hx
  rename_i hok;cases hx;have hv:=H.tm b;rw[htm]at hv;obtain⟨hd,e1,e2,e3⟩:=hv;obtain⟨hd',v,ty,f1,f2,f3,f4,f5,f6⟩:=H.box hy;rw[e1]at f1;cases f1;obtain⟨cv,g1,g2⟩:=jZ hu hs (off:=off) f4 ⟨hok.2.2,hok.1,hok.2.1⟩ f6;refine⟨cv,?_,g2⟩;simp only[HJ,e3,asAddr,Sem.run_bind,Sem.run_pure,Result.andThen_ok];rw[aB']at g1;exact g1
theorem vM{s:S3}(H:aA P c A μ fr s.tm s.hp n a w):∀{rs:List ResultVar} {ars:List AR} {xs:List AV},rs.mapM (FM P)=some ars→kO s ars=some xs →
  ∃vs,(rs.mapM (HJ a.tmps)).run P w=.ok vs w∧RVL w A xs μ vs
 | [],ars,xs,h1,h2=>by
  simp at h1;subst h1;simp[kO]at h2;subst h2;exact⟨[],by simp,rfl⟩
 | r::rs,ars,xs,h1,h2=>by
  rw[List.mapM_cons]at h1;simp only[Option.pure_def,Option.bind_eq_bind,bx']at h1;obtain⟨ar,e1,ars',e2,e3⟩:=h1;cases e3;unfold kO at h2;split at h2
  case h_2=>cases h2
  rename_i x xs' g1 g2;cases h2;obtain⟨v,q1,q2⟩:=HL H e1 g1;obtain⟨vs,q3,q4⟩:=vM H e2 g2;refine⟨v::vs,?_,v,vs,rfl,q2,q4⟩
  simp_all
theorem nS{s:S3}{fn:Func}{ars:List AR}{xs:List AV}(H:aA P c A μ fr s.tm s.hp n a w)(h1:fn.results.toList.mapM (FM P)=some ars)(h2:kO s ars=some xs) :
  ∃v,(results fn a.tmps).run P w=.ok v w∧RV w A (o6 xs) μ v:=by
 obtain⟨vs,e1,e2⟩:=vM H h1 h2;have hl:=e2.length;have hm:(fn.results.mapM (HJ a.tmps)).run P w=.ok vs.toArray w:=by
  rw[Array.mapM_eq_mapM_toList]
  simp_all
 rw[zt,Sem.run_bind,hm];simp only[Result.andThen_ok,Sem.run_pure];refine⟨_,rfl,?_⟩
 match vs,xs,e2,hl with
 | [],[],e2,_=>exact⟨[],by simp,rfl⟩
 | [v],[x],⟨v',vs',h0,h3,_⟩,_=>cases h0;simpa[o6]using h3
 | v::u::vs,x::y::xs,e2,_ =>
  refine⟨v::u::vs,?_,e2⟩;simp
end
def fin(k n:Nat)(res:List AR)(r:AV)(h':List (Option Blk)):X→S3→Prop
 | .exit _,_=>False
 | _,s=>∃s',aF k n s s'∧(∃xs,kO s' res=some xs∧o6 xs=r)∧∀b x,bo h' b=some x→s'.hp b=some x
theorem jN.intro{P:Program}{f:FuncId}{fn:Func}{af:AF}{args:List AV}{h:List Blk}{Qr:AV→List (Option Blk)→Prop}(hf:P.funcs[f]?=some fn)(hc:jD P fn=some af)(hn:args.length≤af.n)
    (hw:AWP P h.length af.n af.body (λe s=>∃r h',Qr r h'∧fin h.length af.n af.res r h' e s) (zY af.n args h)):jN P f args h Qr:=by
  intro w A μ cargs hH hmu hargs;unfold jD at hc;split at hc
  case h_1=>cases hc
  rename_i body hb;split at hc
  case h_1=>cases hc
  rename_i rs hrs;cases hc;simp only at hw hn;have hl:=hargs.length
  let c:Ctx:=⟨w,cg μ (bo (h.map some)),A,μ⟩
  refine calls_of_wp hf hb ?_;have H0:Rel P h.length c fn.ntmps (zY fn.ntmps args h) { tmps:=cargs.toArray++Array.replicate (fn.ntmps-cargs.toArray.size) undef,defers:=[] } w:=by
    refine⟨hmu,A,μ,λt=>?_,?_,rfl,λb x hx=>?_,hH.inj,hH.lt,λb hb=>⟨hmu b hb,?_⟩,⟨rfl,rfl,rfl,V' _,λ_ _ _=>rfl⟩,λ_ h=>h,λ_ h=>.inl h,bp.refl _⟩
    · show RV w A (args.getD t .unk) μ _
      by_cases ht:t<args.length
      · have e1:args[t]?=some (args.getD t .unk):=by simp[List.getD,E' ht]
        obtain⟨v,e2,e3⟩:=hargs.get e1;have:(cargs.toArray++Array.replicate (fn.ntmps-cargs.toArray.size) undef).getD t undef=v:=by
          have hlt:t<cargs.length:=by omega
          have hv:cargs[t]=v:=by rw[E' hlt]at e2;exact ao' e2
          rw[bB',bV' (by simpa using hlt)];simp[hlt,hv]
        rw[this];exact e3
      · have:args.getD t .unk=.unk:=by simp[List.getD,av' (Nat.le_of_not_lt ht)]
        rw[this];trivial
    · simp;omega
    · obtain⟨hd,e1,e2,e3⟩:=hH.blk b x hx
      exact⟨hd,e1,e2,λhe=>⟨(e3 he).1,(e3 he).2,.inl ⟨b,x,hd,hx,e1,he,rfl⟩⟩⟩
    · show bo (h.map some) b=none
      have hb':h.length≤b:=hb;simp[bo,av',hb']
  refine wp_mono (hw _ rfl c _ w H0) ?_
  have fin:∀(s:S3) (a':Act) (w':World),(∃r h',Qr r h'∧∃s',aF h.length fn.ntmps s s'∧(∃xs,kO s' rs=some xs∧o6 xs=r)∧∀b x,bo h' b=some x→s'.hp b=some x)→Rel P h.length c fn.ntmps s a' w' →
      a'.defers=[]∧∃v,(results fn a'.tmps).run P w'=.ok v w'∧(λe w'=>∃r h',Qr r h'∧QY P w A μ h r h' e w') (.returned v) w':=by
    rintro s a' w' ⟨r,h',hq,s',hwk,⟨xs,hxs,hpk⟩,hsub⟩ hr;obtain⟨h0,A',μ',H⟩:=hwk P c a' w' hr;obtain⟨v,e1,e2⟩:=nS H hrs hxs;rw[hpk]at e2
    refine⟨H.df,v,e1,r,h',hq,v,A',μ',rfl,e2,?_,H.mu,?_,H.A0,H.A1,?_⟩
    · refine⟨λb x hx=>?_,λb b' x x' hd hd' hx hx'=>H.inj b b' x x' hd hd' (hsub b x hx) (hsub b' x' hx'),H.lt⟩
      obtain⟨hd,g1,g2,g3⟩:=H.blk b x (hsub b x hx)
      simp_all
    · exact⟨H.keep.os,H.keep.tape,H.keep.output,H.keep.size,H.keep.block⟩
    · rintro b ⟨b',x,hd,hx,hm,he,rfl⟩
      obtain⟨hd',g1,g2,g3⟩:=H.blk b' x (hsub b' x hx)
      grind
  intro e a' w' hq;cases e with
  | normal=>obtain⟨s,h1,h2⟩:=hq;exact fin s a' w' h1 h2
  | ret=>obtain⟨s,h1,h2⟩:=hq;exact fin s a' w' h1 h2
  | exit id=>obtain⟨s,⟨_,_,_,h1⟩,h2⟩:=hq;exact h1.elim
  | _=>exact hq.elim
theorem bc.intro{P:Program}{f:FuncId}{fn:Func}{af:AF}{args:List AV}{h:List Blk}{r:AV}{h':List (Option Blk)}(hf:P.funcs[f]?=some fn)(hc:jD P fn=some af)(hn:args.length≤af.n)
  (hw:AWP P h.length af.n af.body (fin h.length af.n af.res r h') (zY af.n args h)):bc P f args h r h':=
 jN.toS (jN.intro hf hc hn (AWP.mono hw λe s q=>⟨r,h',⟨rfl,rfl⟩,q⟩))
end Go.Am
namespace Go.Am
def j0:List AV→Nat→(Nat→AV)
 | [],_=>λ_=>.unk
 | x::xs,k=>upd (j0 xs (k+1)) k x
def kE:List Blk→Nat→Hp
 | [],_=>λ_=>none
 | x::xs,k=>upd (kE xs (k+1)) k (some x)
theorem wR:∀(xs:List AV) (k t:Nat),j0 xs k t=if k≤t then xs.getD (t-k) .unk else .unk
 | [],k,t=>by simp[j0]
 | x::xs,k,t=>by
  rw[j0]
  by_cases h:t=k
  ·grind [upd]
  ·rw[az _ _ h,wR xs (k+1) t]
   grind
theorem wS:∀(xs:List Blk) (k t:Nat),kE xs k t=if k≤t then xs[t-k]? else none
 | [],k,t=>by simp[kE]
 | x::xs,k,t=>by
  rw[kE]
  by_cases h:t=k
  ·grind [upd]
  ·rw[az _ _ h,wS xs (k+1) t]
   grind
theorem ui(n:Nat)(args:List AV)(h:List Blk):zY n args h=⟨j0 args 0,kE h 0,h.length⟩:=by
 unfold zY
 congr 1
 ·grind [wR]
 ·grind [wS,bo]
mutual
def AV.ok:AV→Prop
  | .val v=>aU v
  | .agg cs=>okL cs
  | .tup xs=>okL xs
  | .func _ caps=>okL caps
  | .sl _ es _=>es.length≤maxLen∧okL es
  | .rptr x _=>x.ok
  | .mp kk ks vs=>ks.Nodup∧(∀q∈ks,q.fits kk)∧vs.length=ks.length∧okL vs
  | _=>True
def okL:List AV→Prop
  | []=>True
  | x::xs=>x.ok∧okL xs
end
section
variable {w : World} {A : Nat → Prop}
mutual
theorem RV.ok:∀{x:AV} {μ:Mu} {v:Value},RV w A x μ v→x.ok
  | .val _,_,_,h=>h.2
  | .agg cs,_,_,⟨vs,h1,h2,h3⟩=>RVL.ok h2
  | .tup xs,_,_,⟨vs,h1,h2⟩=>RVL.ok h2
  | .func f caps,_,_,⟨vs,h1,h2⟩=>RVL.ok h2
  | .ref _ _,_,_,_=>trivial
  | .eref _ _ _,_,_,_=>trivial
  | .rptr x _,_,_,⟨blk,o,v,h1,h2,h3,h4⟩=>(RV.ok h3:x.ok)
  | .vec _,_,_,_=>trivial
  | .vsub _ _ _,_,_,_=>trivial
  | .asub _ _ _ _,_,_,_=>trivial
  | .sl k es full,_,_,h=>by
      rcases h with⟨h1,_⟩|⟨blk,off,cap,vs,h1,h2,h3,h4,h5,h6,h7⟩
      · subst h1;exact⟨aS' _,trivial⟩
      · exact⟨by omega,RVL.ok h6⟩
  | .mref _,_,_,_=>trivial
  | .mp kk ks vs,_,_,⟨blk,ents,clock,h1,h2,h3,h4,h5,h6⟩=>⟨h4.nodup,h4.2.1,by rw[h5.length,f',bC',h4.len],RVL.ok h5⟩
  | .unk,_,_,_=>trivial
theorem RVL.ok:∀{xs:List AV} {μ:Mu} {vs:List Value},RVL w A xs μ vs→okL xs
  | [],_,_,_=>trivial
  | x::xs,_,_,⟨v,vs',h1,h2,h3⟩=>⟨RV.ok h2,RVL.ok h3⟩
end
end
theorem rT:∀{xs:List AV},bU xs↔∀x∈xs,x.pure
 | []=>by simp[bU]
 | x::xs=>by simp[bU,rT (xs:=xs)]
theorem eQ.of_ok{P:Program}{f:FuncId}{args:List AV}{r:AV}(h:okL args→eQ P f args r):eQ P f args r:=
 λw A cargs h1 h2=>h (RVL.ok h2) w A cargs h1 h2
theorem bc.walk{P:Program}{f:FuncId}{fn:Func}{af:AF}{args:List AV}{h:List Blk}{r:AV}{h':List (Option Blk)}(hf:P.funcs[f]?=some fn)(hc:jD P fn=some af)(hn:args.length≤af.n)
  (hw:AWP P h.length af.n af.body (fin h.length af.n af.res r h') ⟨j0 args 0,kE h 0,h.length⟩):bc P f args h r h':=
 bc.intro hf hc hn (by rw[ui];exact hw)
section
variable {P : Program} {k n : Nat} {Q : X → S3 → Prop} {tm : Nat → AV} {hp : Hp} {nx : Nat}
theorem AWP.seq'{x y:AC}(h:AWP P k n x (vy (AWP P k n y Q) Q) ⟨tm,hp,nx⟩):AWP P k n (.seq x y) Q ⟨tm,hp,nx⟩:=AWP.seq h
theorem AWP.reg'{ops:List aN}(h:∀K:(Nat→AV)→Hp→Nat→Prop,(∀t h x,Q .normal ⟨t,h,x⟩→K t h x)→evT P n ops nx ⟨tm,hp⟩ (λs f=>K s.tm s.hp f)):AWP P k n (.reg ops) Q ⟨tm,hp,nx⟩:=
 AWP.reg (h (λt h x=>Q .normal ⟨t,h,x⟩) (λ_ _ _ h=>h))
theorem AWP.dreg'{ops:List aN}{par:List (Nat×Nat)}(h:∀K:(Nat→AV)→Hp→Nat→Prop,(∀t h x,Q .normal ⟨t,h,x⟩→K t h x)→evD P n ops nx ⟨tm,hp⟩ [] (λs f lg=>vT par lg=true∧K s.tm s.hp f)):AWP P k n (.dreg ops par) Q ⟨tm,hp,nx⟩:=
 AWP.dreg (h (λt h x=>Q .normal ⟨t,h,x⟩) (λ_ _ _ h=>h))
end
theorem bz{α:Type}(f:Nat→α)(t:Nat)(v:α)(x:Nat):upd f t v x=if x=t then v else f x:=rfl
theorem evO_t(tm:Nat→AV)(t:Nat):evO tm (.t t)=tm t:=rfl
theorem evO_c(tm:Nat→AV)(x:AV):evO tm (.c x)=x:=rfl
theorem E6(d:Nat)(v:AV)(tm:Nat→AV):aO (some d) v tm=upd tm d v:=rfl
theorem E7(v:AV)(tm:Nat→AV):aO none v tm=tm:=rfl
theorem Gb{n:Int}(h:-9223372036854775808≤n∧n≤9223372036854775807):IntKind.i64.wrap n=n:=IntWalk.i64_in n h
end Go.Am
namespace Go.Am
abbrev AOp.isCall:AOp→Bool
 | .call _ _=>true
 | .isNil _ _ _=>true
 | .lit _ _ _ _=>true
 | .rng _=>true
 | .nxt _=>true
 | .ent _=>true
 | _=>false
section
variable {P : Program} {k n : Nat} {tm : Nat → AV} {hp : Hp}
theorem Rl{α:Type}(f:Nat→α)(t:Nat)(v:α)(x:Nat):upd f t v x=if x=t then v else f x:=id rfl
def goT(P:Program)(n:Nat)(o:Out)(d:Option Nat)(os:List aN)(f:Nat)(tm:Nat→AV)(hp:Hp)(K:S2→Nat→Prop):Prop:=
 o.c∧evT P n os (f+16) ⟨aO d o.v tm,bQ o hp⟩ K
theorem Pb{f:Nat}{K:S2→Nat→Prop}:evT P n [] f ⟨tm,hp⟩ K=K ⟨tm,hp⟩ f:=rfl
theorem SA{d:Option Nat}{op:AOp}{os:List aN}{f:Nat}{K:S2→Nat→Prop}(h:op.isCall=false) :
  evT P n (⟨d,op,none⟩::os) f ⟨tm,hp⟩ K=goT P n (evA op f (evO tm) hp) d os f tm hp K:=by
 cases op<;>first|rfl|simp[AOp.isCall]at h
theorem Fm{d:Option Nat}{ptr ne:Bool}{x:AO}{os:List aN}{f:Nat}{K:S2→Nat→Prop} :
  evT P n (⟨d,.isNil ptr ne x,none⟩::os) f ⟨tm,hp⟩ K=(mc ptr (evO tm x)∧∀t,tW hp (evO tm x) t→evT P n os (f+16) ⟨aO d (.bool (t != ne)) tm,hp⟩ K):=rfl
theorem S7{c:Prop}{v:AV}{d:Option Nat}{os:List aN}{f:Nat}{K:S2→Nat→Prop}{rm:Option Nat}{ad:Option (Nat×Blk)} :
    goT P n { c:=c,v:=v,rm:=rm,ad:=ad } d os f tm hp K=(c∧evT P n os (f+16) ⟨aO d v tm,bQ { c:=True,rm:=rm,ad:=ad } hp⟩ K):=rfl
theorem SB{d:Option Nat}{op:AOp}{os:List aN}{f g:Nat}{want:Bool}{K:S2→Nat→Prop}(h:tm g=.val (.bool want)) :
  evT P n (⟨d,op,some (g,want)⟩::os) f ⟨tm,hp⟩ K=evT P n (⟨d,op,none⟩::os) f ⟨tm,hp⟩ K:=by
 apply propext
 constructor
 ·rintro⟨t,h0,h1,_⟩;rw[show(S2.mk tm hp).tm g=tm g from rfl,h]at h0;cases h0;exact h1 rfl
 ·exact λH=>⟨some want,by rw[show(S2.mk tm hp).tm g=tm g from rfl,h];rfl,λ_=>H,λe=>absurd rfl e⟩
theorem SC{d:Option Nat}{op:AOp}{os:List aN}{f g:Nat}{want:Bool}{K:S2→Nat→Prop}(h:tm g=.tup []) :
  evT P n (⟨d,op,some (g,want)⟩::os) f ⟨tm,hp⟩ K=evT P n os (f+16) ⟨aO d (.tup []) tm,hp⟩ K:=by
 apply propext
 constructor
 ·rintro⟨t,h0,_,h1⟩;rw[show(S2.mk tm hp).tm g=tm g from rfl,h]at h0;cases h0;exact h1 (by simp)
 ·exact λH=>⟨none,by rw[show(S2.mk tm hp).tm g=tm g from rfl,h];rfl,λe=>by simp at e,λ_=>H⟩
theorem SD{d:Option Nat}{op:AOp}{os:List aN}{f g:Nat}{want:Bool}{K:S2→Nat→Prop}(h:tm g=.val (.bool (!want))) :
  evT P n (⟨d,op,some (g,want)⟩::os) f ⟨tm,hp⟩ K=evT P n os (f+16) ⟨aO d (.tup []) tm,hp⟩ K:=by
 apply propext
 constructor
 ·rintro⟨t,h0,_,h1⟩;rw[show(S2.mk tm hp).tm g=tm g from rfl,h]at h0;cases h0;exact h1 (by cases want<;>simp)
 ·exact λH=>⟨some (!want),by rw[show(S2.mk tm hp).tm g=tm g from rfl,h];rfl,λe=>by cases want<;>simp at e,λ_=>H⟩
theorem xu{d:Option Nat}{g:AO}{xs:List AO}{os:List aN}{f:Nat}{K:S2→Nat→Prop}{fid:FuncId}{caps args:List AV}{foot:List Nat}{v:AV}{e:Eff}
  (hg:evO tm g=.func fid caps) (hx:xs.map (evO tm)++caps=args) (hc:bg P n fid args f hp foot v e) (hK:evT P n os (f+16) ⟨aO d v tm,cu e hp⟩ K) :
  evT P n (⟨d,.call g xs,none⟩::os) f ⟨tm,hp⟩ K:=
 ⟨fid,caps,foot,v,e,hg,.inl (by rw[←hx]at hc;exact hc),hK⟩
def goD(P:Program)(n:Nat)(o:Out)(rd:List Nat)(d:Option Nat)(os:List aN)(f:Nat)(tm:Nat→AV)(hp:Hp)(lg:Log)(K:S2→Nat→Log→Prop):Prop:=
 o.c∧evD P n os (f+16) ⟨aO d o.v tm,bQ o hp⟩ (lg++[(rd,wrH o)]) K
theorem Pc{f:Nat}{lg:Log}{K:S2→Nat→Log→Prop}:evD P n [] f ⟨tm,hp⟩ lg K=K ⟨tm,hp⟩ f lg:=rfl
theorem SF{d:Option Nat}{op:AOp}{os:List aN}{f:Nat}{lg:Log}{K:S2→Nat→Log→Prop}(h:op.isCall=false) :
  evD P n (⟨d,op,none⟩::os) f ⟨tm,hp⟩ lg K=goD P n (evA op f (evO tm) hp) (rdH op tm) d os f tm hp lg K:=by
 cases op<;>first|rfl|simp[AOp.isCall]at h
theorem S8{c:Prop}{v:AV}{d:Option Nat}{os:List aN}{f:Nat}{lg:Log}{rd:List Nat}{K:S2→Nat→Log→Prop}{rm:Option Nat}{ad:Option (Nat×Blk)} :
    goD P n { c:=c,v:=v,rm:=rm,ad:=ad } rd d os f tm hp lg K=(c∧evD P n os (f+16) ⟨aO d v tm,bQ { c:=True,rm:=rm,ad:=ad } hp⟩ (lg++[(rd,rm.toList++(ad.toList.map (·.1)))]) K):=rfl
theorem SG{d:Option Nat}{op:AOp}{os:List aN}{f g:Nat}{want:Bool}{lg:Log}{K:S2→Nat→Log→Prop}(h:tm g=.val (.bool want)) :
  evD P n (⟨d,op,some (g,want)⟩::os) f ⟨tm,hp⟩ lg K=evD P n (⟨d,op,none⟩::os) f ⟨tm,hp⟩ lg K:=by
 apply propext
 constructor
 ·rintro⟨t,h0,h1,_⟩;rw[show(S2.mk tm hp).tm g=tm g from rfl,h]at h0;cases h0;exact h1 rfl
 ·exact λH=>⟨some want,by rw[show(S2.mk tm hp).tm g=tm g from rfl,h];rfl,λ_=>H,λe=>absurd rfl e⟩
theorem SH{d:Option Nat}{op:AOp}{os:List aN}{f g:Nat}{want:Bool}{lg:Log}{K:S2→Nat→Log→Prop}(h:tm g=.tup []) :
  evD P n (⟨d,op,some (g,want)⟩::os) f ⟨tm,hp⟩ lg K=evD P n os (f+16) ⟨aO d (.tup []) tm,hp⟩ (lg++[([],[])]) K:=by
 apply propext
 constructor
 ·rintro⟨t,h0,_,h1⟩;rw[show(S2.mk tm hp).tm g=tm g from rfl,h]at h0;cases h0;exact h1 (by simp)
 ·exact λH=>⟨none,by rw[show(S2.mk tm hp).tm g=tm g from rfl,h];rfl,λe=>by simp at e,λ_=>H⟩
theorem SJ{d:Option Nat}{op:AOp}{os:List aN}{f g:Nat}{want:Bool}{lg:Log}{K:S2→Nat→Log→Prop}(h:tm g=.val (.bool (!want))) :
  evD P n (⟨d,op,some (g,want)⟩::os) f ⟨tm,hp⟩ lg K=evD P n os (f+16) ⟨aO d (.tup []) tm,hp⟩ (lg++[([],[])]) K:=by
 apply propext
 constructor
 ·rintro⟨t,h0,_,h1⟩;rw[show(S2.mk tm hp).tm g=tm g from rfl,h]at h0;cases h0;exact h1 (by cases want<;>simp)
 ·exact λH=>⟨some (!want),by rw[show(S2.mk tm hp).tm g=tm g from rfl,h];rfl,λe=>by cases want<;>simp at e,λ_=>H⟩
theorem zC(x y:AV):pv true x y=x:=by
 unfold pv;split<;>simp
theorem vQ(x y:AV):pv false x y=y:=by
 unfold pv;split<;>simp
theorem AWP.seqI{x y:AC}{Q:X→S3→Prop}{s:S3}(I:S3→Prop)(h:AWP P k n x (vy I Q) s)(h':∀s,I s→AWP P k n y Q s):AWP P k n (.seq x y) Q s:=
 AWP.seq (h.mono λe s hq=>by
  cases e with
  | normal=>exact h' s hq
  | exit id=>exact hq
  | ret=>exact hq)
def ed:List (Nat×AV)→Nat→AV
 | [],_=>.unk
 | (t,x)::l,u=>if u=t then x else ed l u
def lE(hp:Hp)(bs:List Nat)(m:Nat):Nat→List (Option Blk)→Prop
 | _,[]=>True
 | i,none::l=>lE hp bs m (i+1) l
 | i,some x::l=>(hp (bs.getD i 0)=some (x.ren λi=>bs.getD i 0)∧x.bel m)∧lE hp bs m (i+1) l
theorem lE.get{bs:List Nat}{m:Nat}:∀{l:List (Option Blk)} {i:Nat},lE hp bs m i l→∀{b x},l[b]?=some (some x)→hp (bs.getD (i+b) 0)=some (x.ren λi=>bs.getD i 0)∧x.bel m
 | none::l,i,h,0,x,e=>by simp at e
 | some y::l,i,h,0,x,e=>by simp at e;subst e;exact h.1
 | none::l,i,h,b+1,x,e=>by
   have:=lE.get (l:=l) h (b:=b) (x:=x) (by simpa using e)
   grind
 | some y::l,i,h,b+1,x,e=>by
   have:=lE.get (l:=l) h.2 (b:=b) (x:=x) (by simpa using e)
   grind
end
end Go.Am
namespace Go.Am
mutual
theorem AV.bel_pure{k:Nat}:∀{x:AV},x.pure→x.bel k
  | .agg cs,h=>bm (xs:=cs) h
  | .tup xs,h=>bm (xs:=xs) h
  | .func f caps,h=>bm (xs:=caps) h
  | .ref _ _,h=>h.elim
  | .eref _ _ _,h=>h.elim
  | .vec _,h=>h.elim
  | .vsub _ _ _,h=>h.elim
  | .asub _ _ _ _,h=>h.elim
  | .val _,_=>trivial
  | .rptr _ _,_=>trivial
  | .sl _ _ _,_=>trivial
  | .mref _,h=>h.elim
  | .mp _ _ _,_=>trivial
  | .unk,_=>trivial
theorem bm{k:Nat}:∀{xs:List AV},bU xs→fP k xs
  | [],_=>trivial
  | x::xs,h=>⟨AV.bel_pure h.1,bm h.2⟩
end
def Blk.ok:Blk→Prop
 | .box x=>x.ok
 | .vec _ es=>es.length≤maxLen∧okL es
 | .row _ es len cap=>es.length≤len∧len≤cap∧cap≤maxLen∧okL es
 | .map kk ks vs=>ks.Nodup∧(∀q∈ks,q.fits kk)∧vs.length=ks.length∧okL vs
 | _=>True
theorem dw.ok{w:World}{A:Nat→Prop}{μ:Mu}{hd:Hd}{x:Blk}(h:dw w A μ hd x):x.ok:=by
 cases x with
 | box x=>obtain⟨_,_,v,ty,h1,_⟩:=h;exact RV.ok h1
 | vec k es =>
  obtain⟨_,h|⟨h1,h2,h3,h4,C,ty,vs,h5,h6,_⟩⟩:=h
  ·obtain⟨rfl,_⟩:=h;exact⟨aS' _,trivial⟩
  ·exact⟨by omega,RVL.ok h6⟩
 | row k es len cap =>
  obtain⟨_,_,_,_,h1,h2,h3,C,ty,vs,_,h6,_⟩:=h;exact⟨h1,h2,h3,RVL.ok h6⟩
 | map kk ks vs =>
  obtain⟨_,ents,clock,h3,h4,h5,h6⟩:=h;exact⟨h4.nodup,h4.2.1,by rw[h5.length,f',bC',h4.len],RVL.ok h5⟩
 | mst _ _ _ _ _=>trivial
 | itr _ _ _ _=>trivial
theorem bc.of_okh{P:Program}{f:FuncId}{args:List AV}{hb:List Blk}{r:AV}{h':List (Option Blk)}(h:okL args→(∀x∈hb,x.ok)→bc P f args hb r h'):bc P f args hb r h':=by
 intro w A μ cargs h1 h2 h3;refine h (RVL.ok h3) (λx hx=>?_) w A μ cargs h1 h2 h3;obtain⟨i,hi,e⟩:=bl'.mp hx;obtain⟨hd,_,g,_⟩:=h1.blk i x (ka.mpr (by rw[E' hi,e]));exact g.ok
section
variable {P : Program} {k n : Nat} {tm : Nat → AV} {hp : Hp} {fid : FuncId}
theorem bg.own{args:List AV}{x x' r:AV}{b f off:Nat}(hs:bc P fid (.ref 0 off::args) [.box x] r [some (.box x')])(hf:mI P fid)(h1:bU args)(h2:x.pure)(h3:x'.pure)(h4:r.pure)
  (hb:hp b=some (.box x)):bg P n fid (.ref b off::args) f hp [b] r (fH [(b,some (.box x'))]):=by
 have key:=bg.hand (n:=n) (f:=f) (hp:=hp) hf hs [b] rfl (by simp) ⟨Nat.zero_lt_one,bm h1⟩ (λi c y e1 e2=>by
  cases i with
  | succ i=>simp at e1
  | zero =>
   simp at e1 e2;subst e1;subst e2;exact⟨AV.bel_pure h2,by rw[hb];simp only[Blk.ren,AV.ren_pure _ h2]⟩) (V' _) (by simp) (AV.bel_pure h4) (λy hy=>by simp at hy;subst hy;exact AV.bel_pure h3)
 have e1:bj [b] f 0=b:=by simp[bj]
 rw[dm,bf _ h1,AV.ren_pure _ h4,AV.ren,e1]at key;have e2:cC [b] f [some (Blk.box x')]=fH [(b,some (.box x'))]:=by grind [cC,List.zipIdx,Blk.ren,AV.ren_pure]
 rwa [e2]at key
theorem bg.new{args:List AV}{x:AV}{f:Nat}(hs:bc P fid args [] (.ref 0 0) [some (.box x)])(hf:mI P fid)(h1:bU args)(h2:x.pure) :
  bg P n fid args f hp [] (.ref f 0) (fH [(f,some (.box x))]):=by
 have key:=bg.hand (n:=n) (f:=f) (hp:=hp) hf hs [] rfl (by simp) (bm h1) (λi c y e1 e2=>by simp at e1) (by simp) (by simp) (show(0:Nat)<1 by omega) (λy hy=>by simp at hy;subst hy;exact AV.bel_pure h2);have e1:bj [] f 0=f:=by simp[bj]
 rw[bf _ h1,AV.ren,e1]at key;have e2:cC [] f [some (Blk.box x)]=fH [(f,some (.box x))]:=by grind [cC,List.zipIdx,Blk.ren,AV.ren_pure]
 rwa [e2]at key
theorem s9(b:Nat)(x:Option Blk)(hp:Hp):cu (fH [(b,x)]) hp=upd hp b x:=by rw[Ad,EY]
theorem mB{d:Option Nat}{g:AO}{xs:List AO}{os:List aN}{f:Nat}{K:S2→Nat→Prop}{args:List AV}{x x' r:AV}{b off:Nat}(hs:bc P fid (.ref 0 off::args) [.box x] r [some (.box x')])(hf:mI P fid)
  (h1:bU args) (h2:x.pure) (h3:x'.pure) (h4:r.pure) (hg:evO tm g=.func fid []) (hx:xs.map (evO tm)=.ref b off::args) (hb:hp b=some (.box x))
  (hK:evT P n os (f+16) ⟨aO d r tm,upd hp b (some (.box x'))⟩ K):evT P n (⟨d,.call g xs,none⟩::os) f ⟨tm,hp⟩ K:=
 xu hg (by simpa using hx) (bg.own hs hf h1 h2 h3 h4 hb) (by rw[s9];exact hK)
end
end Go.Am
namespace Go.Am
def Old(w:World)(b:Nat):Prop:=b<w.heap.size
/-- A program that has none of the package variables that the layer knows. -/
def oX (P : Program) : Bool := (P.globalNamed "internal/strconv.uint64pow10").isNone
theorem GY{P:Program}(h:oX P=true){n:String}{k:IntKind}{zs:List Int}{g:Nat}(e1:Ro n=some (k,zs))(e2:P.globalNamed n=some g):False:=by grind [Ro,oX]
theorem eQ.below{P:Program}{f:FuncId}{args:List AV}{r:AV}(h:eQ P f args r){w:World}(hG:LtOk P (Old w) w){cargs:List Value}(ha:RVL w (Old w) args dC cargs) :
  Calls P f cargs.toArray w λe w'=>∃v A',e=.returned v∧RV w' A' r dC v∧RowKit.Below w.heap.size w w':=
 (h w (Old w) cargs hG ha).mono λe w' ⟨v,A',h1,h2,h3,_⟩=>⟨v,A',h1,h2,⟨h3.os,h3.tape,h3.output,h3.size,λk hk=>h3.block k hk (λh=>h)⟩⟩
theorem eQ.belowB{P:Program}{f:FuncId}{args:List AV}{b:Bool}(h:eQ P f args (.bool b)){w:World}(hG:LtOk P (Old w) w){cargs:List Value}(ha:RVL w (Old w) args dC cargs) :
  Calls P f cargs.toArray w λe w'=>e=.returned (.bool b)∧RowKit.Below w.heap.size w w':=
 (h.below hG ha).mono λe w' ⟨v,A',h1,h2,h3⟩=>⟨by rw[h1,h2.1],h3⟩
theorem Addr.eta{w:World}{x:Addr}{v:Value}(h:w.cell? x=some v):x=⟨x.block,x.off,none⟩∧x.block<w.heap.size:=by
 unfold World.cell? at h
 split at h
 ·rename_i c ty z e;have hs:x.spot=none:=by simp_all
  refine⟨by cases x;simp_all,?_⟩
  grind
 ·cases h
end Go.Am
namespace Go.Am
def Sub(x y:AV):Prop:=∀(w:World) (A:Nat→Prop) (μ:Mu) (v:Value),RV w A x μ v→RV w A y μ v
def gF:List AV→List AV→Prop
 | [],[]=>True
 | x::xs,y::ys=>Sub x y∧gF xs ys
 | _,_=>False
theorem Sub.refl{x:AV}:Sub x x:=λ_ _ _ _ h=>h
theorem gF.refl:∀{xs:List AV},gF xs xs
 | []=>trivial
 | _::_=>⟨Sub.refl,gF.refl⟩
theorem gF.rvl{w:World}{A:Nat→Prop}{μ:Mu}:∀{xs ys:List AV} {vs:List Value},gF xs ys→RVL w A xs μ vs→RVL w A ys μ vs
 | [],[],_,_,h=>h
 | x::xs,y::ys,_,hs,⟨v,vs',h1,h2,h3⟩=>⟨v,vs',h1,hs.1 w A μ v h2,gF.rvl hs.2 h3⟩
 | [],_::_,_,hs,_=>hs.elim
 | _::_,[],_,hs,_=>hs.elim
theorem Sub.sl{k k':Nat}{es:List AV}{full full':Bool}(h:k=k'∨es=[])(hf:full'=true→full=true):Sub (.sl k es full) (.sl k' es full'):=by
 intro w A μ v hv
 rcases hv with⟨h1,h2⟩|⟨blk,off,cap,vs,e1,e2,e3,e4,e5,e6,e7,e8⟩
 ·exact .inl ⟨h1,h2⟩
 ·refine .inr ⟨blk,off,cap,vs,e1,e2,e3,e4,λh=>e5 (hf h),e6,λu hu=>?_,e8⟩
  grind [RVL]
theorem Sub.agg{xs ys:List AV}(h:gF xs ys):Sub (.agg xs) (.agg ys):=λw A μ v ⟨vs,h1,h2,h3⟩=>⟨vs,h1,h.rvl h2,h3⟩
theorem Sub.tup{xs ys:List AV}(h:gF xs ys):Sub (.tup xs) (.tup ys):=λw A μ v ⟨vs,h1,h2⟩=>⟨vs,h1,h.rvl h2⟩
theorem Sub.unk{x:AV}:Sub x .unk:=λ_ _ _ _ _=>trivial
theorem eQ.sub{P:Program}{f:FuncId}{args args':List AV}{r r':AV}(h:eQ P f args r)(ha:gF args' args)(hr:Sub r r'):eQ P f args' r':=
 λw A cargs h1 h2=>(h w A cargs h1 (ha.rvl h2)).mono λe w' ⟨v,A',g1,g2,g3⟩=>⟨v,A',g1,hr _ _ _ _ g2,g3⟩
theorem aF.sub{k n:Nat}{s s':S3}(h1:∀t,Sub (s.tm t) (s'.tm t))(h2:s'.hp=s.hp)(h3:s'.nx=s.nx):aF k n s s':=by
 rintro P c a w ⟨h0,A,μ,H⟩;refine⟨h0,A,μ,⟨λt=>h1 t _ _ _ _ (H.tm t),H.n,H.df,by rw[h2];exact H.blk,by rw[h2];exact H.inj,H.lt,by rw[h2,h3];exact H.fr,H.keep,H.A0,H.A1,H.mu⟩⟩
end Go.Am
namespace Go.Am
set_option linter.defProp false
theorem Ms(n:Nat):(0=n+1)=False:=by simp
theorem RN(n:Nat):(1=n+2)=False:=by simp
theorem Ix(n:Nat):(n+1=0)=False:=by simp
def stepU:=F' @Pb (F' @SA (F' @S7 (F' @SB (F' @SC (F' @SD (F' @Pc (F' @SF (F' @S8 (F' @SG (F' @SH (F' @SJ (F' @evO_t (F' @evO_c (F' @Rl (F' @E6 (F' @E7 (F' @true_and (F' @and_true (F' @zC (F' @vQ (F' @Bool.not_true (F' @Bool.not_false (F' @ap' (F' @List.flatMap_nil (F' @bk' (F' @az' (F' @bA' (F' @List.cons_append (F' @Option.toList_some (F' @Option.toList_none (F' @au' (F' @cc' (F' @Z' (F' @aC' (F' @V' (F' @List.take_zero (F' @bf' (F' @List.take_succ_cons (F' @List.drop_succ_cons (F' @List.take_nil (F' @List.drop_nil (F' @ax' (F' @List.foldl_nil (F' @Option.isSome_none (F' @List.getD_cons_zero (F' @List.getD_cons_succ (F' @ah' (F' @Option.map_none (F' @bE' (F' @aB' (F' @Ms (F' @RN (F' @Ix (F' @false_and (F' @and_false (F' @Bool.and_true (F' @Bool.and_false ((F' @beq_self_eq_true (F' @bne_self_eq_false (F' @Bool.true_and (F' @Bool.false_and (F' @Bool.or_false (F' @Bool.false_or (F' @Bool.true_or (F' @Bool.or_true (F' @Int.toNat_one (F' @Int.cast_ofNat_Int (F' @Int.sub_zero (F' @Int.toNat_zero (F' @Int.zero_le_ofNat (F' @ai' (F' @and_self (F' @Nat.zero_mul (F' @Nat.mul_one (F' @decide_true (F' @decide_false (F' @Option.getD_none (F' @cd' (F' @P' (F' @aq' (F' @or_false (F' @true_or (((F' @false_implies (F' @O' (@Fm))))))))))))))))))))))))))))))))))))))))))))))))))))))))))))))))))))))))))))))))))))))))
def stepS:=@stepU.{0,0,0,0,0,0,0,0,0,0,0,0,0,0,0,0,0,0,0,0,0,0,0,0,0,0,0,0,0,0,0,0,0,0,0,0,0,0,0}
end Go.Am
namespace Go.Am
end Go.Am
namespace Go.Am
def hpL:Nat→List (Option Blk)→Nat→Option Blk
 | _,[],_=>none
 | i,x::l,b=>if b=i then x else hpL (i+1) l b
theorem Sw(i:Nat)(x:Option Blk)(l:List (Option Blk))(b:Nat):hpL i (x::l) b=if b=i then x else hpL (i+1) l b:=rfl
theorem OK(i b:Nat):hpL i [] b=none:=rfl
theorem NH(t:Nat)(x:AV)(l:List (Nat×AV))(u:Nat):ed ((t,x)::l) u=if u=t then x else ed l u:=rfl
theorem HK(u:Nat):ed [] u=.unk:=rfl
theorem kz{a:Int}{b:Nat}(h:a=(b:Int))(h2:b≤9223372036854775807):IntKind.i64.wrap a=(b:Int):=by grind [IntWalk.i64_in]
theorem uj:∀(l:List (Option Blk)) (i b:Nat),hpL i l b=if i≤b then(l[b-i]?).join else none
 | [],i,b=>by simp[hpL]
 | x::l,i,b=>by
  rw[hpL]
  by_cases h:b=i
  ·subst h;simp
  ·rw[u' h,uj l (i+1) b]
   grind
theorem mw(l:List (Option Blk)):bo l=hpL 0 l:=by grind [uj,bo]
section
variable {P : Program} {k n : Nat}
def Ga(tm:Nat→AV)(bs:List Nat)(m:Nat):List (Nat×AV)→Prop
 | []=>True
 | (t,x)::l=>(tm t=x.ren (λi=>bs.getD i 0)∧x.bel m)∧Ga tm bs m l
theorem Ga.all{tm:Nat→AV}{bs:List Nat}{m:Nat}:∀{l:List (Nat×AV)},Ga tm bs m l→∀p∈l,tm p.1=p.2.ren (λi=>bs.getD i 0)∧p.2.bel m
 | [],_,p,hp=>by simp at hp
 | (t,x)::l,h,p,hp=>by
  rcases P'.mp hp with rfl|hp
  ·exact h.1
  ·exact Ga.all h.2 p hp
theorem aF.nf{tm:Nat→AV}{hp:Hp}{nx:Nat}(bs:List Nat)(ts:List (Nat×AV))(hs:List (Option Blk)){m:Nat}(h3:Ga tm bs m ts)(h4:lE hp bs m 0 hs)
  (h5:bs.length=hs.length∧hs.length=m) (h6:bs.Nodup) (h7:∀b,b<k→bs.getD b 0=b) (h8:k≤m):aF k n ⟨tm,hp,nx⟩ ⟨ed ts,hpL 0 hs,m⟩:=by
 obtain⟨h5,rfl⟩:=h5
 refine aF.ren (λi=>bs.getD i 0) (λt=>?_) (λb x e=>?_) (λb b' e e' he=>?_) h7 h8
 ·show ed ts t=.unk∨_;have h3:=h3.all
  induction ts with
  | nil=>exact .inl rfl
  | cons p l ih =>
   obtain⟨t',x⟩:=p;show(if t=t' then x else ed l t)=.unk∨(tm t=(if t=t' then x else ed l t).ren _∧_)
   by_cases ht:t=t'
   ·simp_all [ed,reduceIte]
   ·grind [Ga,ed]
 ·rw[show(⟨ed ts,hpL 0 hs,hs.length⟩:S3).hp=bo hs from(mw hs).symm]at e;have e:=bu.mp e;have:=h4.get e
  grind
 ·rw[show(⟨ed ts,hpL 0 hs,hs.length⟩:S3).hp=bo hs from(mw hs).symm]at e e'
  grind [bo,Nat.lt_or_ge,absurd,List.getElem?_eq_none,List.getElem?_eq_getElem,List.getElem_inj]
theorem AWP.loopS{Q:X→S3→Prop}{s:S3}{x:AC}{σ:Type}(st:σ→S3)(inv:σ→Prop)(μ:σ→Nat){i0:σ}(h0:inv i0)(hw:aF k n s (st i0))
  (round:∀i,inv i→AWP P k n x (vy (λs'=>∃j,inv j∧μ j<μ i∧aF k n s' (st j)) Q) (st i)):AWP P k n (.loop x) Q s:=by
 refine AWP.loop (λm s=>∃i,inv i∧m=μ i∧s=st i) ⟨_,hw,i0,h0,rfl,rfl⟩ ?_;rintro m s ⟨i,hi,rfl,rfl⟩;refine(round i hi).mono ?_;intro e s hq;cases e with
 | normal=>obtain⟨j,h1,h2,h3⟩:=hq;exact⟨_,_,h2,h3,j,h1,rfl,rfl⟩
 | exit id=>exact hq
 | ret=>exact hq
theorem RV.nilsl{w:World}{A:Nat→Prop}{μ:Mu}{kk:Nat}{v:Value}(h:RV w A (.sl kk [] true) μ v):∃a:Option Addr,v=.slice a 0 0:=by
 rcases h with⟨_,h⟩|⟨blk,off,cap,vs,e1,e2,e3,e4,e5,_⟩
 ·exact h
 ·simp_all
theorem aF.nilvec{tm:Nat→AV}{hp:Hp}{nx:Nat}(t0 kk k':Nat)(h:tm t0=.sl kk [] true)(hk:k≤nx):aF k n ⟨tm,hp,nx⟩ ⟨upd tm t0 (.vec nx),upd hp nx (some (.vec k' [])),nx+1⟩:=by
 rintro P c a w ⟨h0,A,μ,H⟩;obtain⟨ad,hv⟩:=RV.nilsl (by have:=H.tm t0;rw[show(⟨tm,hp,nx⟩:S3).tm t0=_ from h]at this;exact this);obtain⟨f1,f2⟩:μ nx=none∧hp nx=none:=H.fr nx (V' _)
 let hd:Hd:=⟨some ad,0,k',0,0⟩
 have hle:bp μ (upd μ nx (some hd)):=by
  intro b hd' e
  grind [az]
 have key:=H.add nx f2 (upd μ nx (some hd)) hle (λb hb=>az _ _ hb) hd (ai _ _ _) (.vec k' []) ⟨rfl,.inl ⟨rfl,rfl⟩⟩ (λe=>by cases e) (λ_ _ _ _ _ _ e=>by cases e)
 refine⟨h0,A,upd μ nx (some hd),⟨λt=>?_,key.n,key.df,key.blk,key.inj,key.lt,λb hb=>?_,key.keep,key.A0,key.A1,key.mu⟩⟩
 ·by_cases ht:t=t0
  ·subst ht;show RV w A (upd tm t (.vec nx) t) _ _;rw[ai];exact⟨hd,ai _ _ _,hv⟩
  ·show RV w A (upd tm t0 (.vec nx) t) _ _;rw[az _ _ ht];exact key.tm t
 ·have hb:nx+1≤b:=hb;exact key.fr b ⟨show nx≤b by omega,by omega⟩
theorem RVL.setAt{w:World}{A:Nat→Prop}{μ:Mu}:∀{xs:List AV} {vs:List Value} {i:Nat} {y:AV} {v:Value},RVL w A xs μ vs→vs[i]?=some v→RV w A y μ v→RVL w A (xs.set i y) μ vs
 | [],vs,i,y,v,h,hi,hy=>h
 | z::xs,vs,0,y,v,⟨v',vs',e,h1,h2⟩,hi,hy=>by
  subst e;simp at hi;subst hi;exact⟨_,_,rfl,hy,h2⟩
 | z::xs,vs,i+1,y,v,⟨v',vs',e,h1,h2⟩,hi,hy=>by
  subst e;exact⟨_,_,rfl,h1,RVL.setAt h2 (by simpa using hi) hy⟩
theorem aF.nilvecB{tm:Nat→AV}{hp:Hp}{nx:Nat}(b0 i kk k':Nat)(cs:List AV)(hb:hp b0=some (.box (.agg cs)))(h:cs[i]?=some (.sl kk [] true))(hk:k≤nx) :
  aF k n ⟨tm,hp,nx⟩ ⟨tm,upd (upd hp b0 (some (.box (.agg (cs.set i (.vec nx)))))) nx (some (.vec k' [])),nx+1⟩:=by
 rintro P c a w ⟨h0,A,μ,H⟩;obtain⟨hd0,q1,⟨q2,q3,v0,ty0,⟨vs0,q4,q5,q6⟩,q7⟩,q8⟩:=H.blk b0 _ hb;have hi:i<cs.length:=(I'.mp h).1;have hv0:=(RVL.length q5)
 obtain⟨vi,hvi⟩:∃vi,vs0[i]?=some vi:=⟨vs0[i]'(by omega),E' (by omega)⟩
 obtain⟨ad,hv⟩:=RV.nilsl (RVL.get2 q5 h hvi);obtain⟨f1,f2⟩:μ nx=none∧hp nx=none:=H.fr nx (V' _)
 let hd:Hd:=⟨some ad,0,k',0,0⟩
 have hne:b0≠nx:=λe=>by subst e;rw[f2]at hb;cases hb
 have hle:bp μ (upd μ nx (some hd)):=by
  intro b hd' e
  by_cases g:b=nx
  ·subst g;rw[f1]at e;cases e
  ·rw[az _ _ g];exact e
 have key:=H.add nx f2 (upd μ nx (some hd)) hle (λb hb=>az _ _ hb) hd (ai _ _ _) (.vec k' []) ⟨rfl,.inl ⟨rfl,rfl⟩⟩ (λe=>by cases e) (λ_ _ _ _ _ _ e=>by cases e);have hswap:upd (upd hp b0 (some (.box (.agg (cs.set i (.vec nx)))))) nx (some (.vec k' []))=upd (upd hp nx (some (.vec k' []))) b0 (some (.box (.agg (cs.set i (.vec nx))))):=by
  funext b
  by_cases e1:b=b0
  ·subst e1;rw[ai,az _ _ hne,ai]
  ·rw[az _ _ e1]
   by_cases e2:b=nx
   ·subst e2;rw[ai,ai]
   ·rw[az _ _ e2,az _ _ e1,az _ _ e2]
 rw[hswap];have back:∀b x,upd (upd hp nx (some (.vec k' []))) b0 (some (.box (.agg (cs.set i (.vec nx))))) b=some x→∃y,upd hp nx (some (.vec k' [])) b=some y:=by
  intro b x hx
  by_cases e:b=b0
  ·subst e;exact⟨.box (.agg cs),by rw[az _ _ hne];exact hb⟩
  ·rw[az _ _ e]at hx;exact⟨x,hx⟩
 refine⟨h0,A,upd μ nx (some hd),⟨key.tm,key.n,key.df,λb x hx=>?_,λb b' x x' hd1 hd2 hx hx'=>?_,key.lt,λb hb'=>?_,key.keep,key.A0,key.A1,key.mu⟩⟩
 ·by_cases e:b=b0
  ·subst e;have hx:some (Blk.box (.agg (cs.set i (.vec nx))))=some x:=by
    rw[←hx];exact(ai _ _ _).symm
   cases hx;refine⟨hd0,hle _ _ q1,⟨q2,rfl,v0,ty0,⟨vs0,q4,?_,q6⟩,q7⟩,q8⟩;exact RVL.setAt (RVL.mono (λ_ _=>rfl) (λ_ h=>h) _ hle q5) hvi ⟨hd,ai _ _ _,hv⟩
  ·have hx:upd hp nx (some (.vec k' [])) b=some x:=by
    rw[←hx];exact(az _ _ e).symm
   exact key.blk b x hx
 ·obtain⟨y,hy⟩:=back b x hx;obtain⟨y',hy'⟩:=back b' x' hx';exact key.inj _ _ _ _ _ _ hy hy'
 ·have hb':nx+1≤b:=hb';have:upd μ nx (some hd) b=none∧upd hp nx (some (.vec k' [])) b=none:=key.fr b ⟨show nx≤b by omega,by omega⟩;refine⟨this.1,?_⟩;show upd (upd hp nx (some (.vec k' []))) b0 _ b=none
  by_cases e:b=b0
  ·subst e;have:=this.2;rw[az _ _ hne,hb]at this;cases this
  ·rw[az _ _ e];exact this.2
end
end Go.Am
namespace Go.Am
section
variable {P : Program} {k n : Nat} {tm : Nat → AV} {hp : Hp} {nx : Nat}
theorem aF.giveT{kk:Nat}{es:List AV}(t b:Nat)(ht:tm t=.vec b)(hb:hp b=some (.vec kk es))(hx:bU es):aF k n ⟨tm,hp,nx⟩ ⟨upd tm t (.sl kk es false),upd hp b none,nx⟩:=by
 refine aF.give b rfl (λu=>.inr ?_) (λb' x hx'=>?_) (by show hp b≠none;rw[hb];simp)
 ·grind [bD,upd,ai,bD.vec,az,bD.refl]
 ·grind [upd]
theorem aF.subT{y:AV}(t:Nat)(h:Sub (tm t) y):aF k n ⟨tm,hp,nx⟩ ⟨upd tm t y,hp,nx⟩:=by
 refine aF.sub (λu=>?_) rfl rfl
 grind [Sub,upd]
theorem aF.subB{x y:AV}(b0:Nat)(h0:hp b0=some (.box x))(h:Sub x y)(hy:y.solid=true):aF k n ⟨tm,hp,nx⟩ ⟨tm,upd hp b0 (some (.box y)),nx⟩:=by
 rintro P c a w ⟨h1,A,μ,H⟩;obtain⟨hd,q1,⟨q2,q3,v,ty,q4,q5⟩,q6⟩:=H.blk b0 _ h0;have back:∀b z,upd hp b0 (some (.box y)) b=some z→∃z',hp b=some z':=by grind [az]
 refine⟨h1,A,μ,⟨H.tm,H.n,H.df,λb z hz=>?_,λb b' z z' hd1 hd2 hz hz'=>?_,H.lt,λb hb=>?_,H.keep,H.A0,H.A1,H.mu⟩⟩
 ·have hz:upd hp b0 (some (.box y)) b=some z:=hz
  by_cases e:b=b0
  ·subst e;rw[ai]at hz;cases hz;exact⟨hd,q1,⟨q2,hy,v,ty,h _ _ _ _ q4,q5⟩,q6⟩
  ·rw[az _ _ e]at hz;exact H.blk b z hz
 ·obtain⟨_,g⟩:=back _ _ hz;obtain⟨_,g'⟩:=back _ _ hz';exact H.inj _ _ _ _ _ _ g g'
 ·have:μ b=none∧hp b=none:=H.fr b hb
  grind [upd]
end
end Go.Am
namespace Go.Am
section
variable {P : Program} {k n : Nat} {tm : Nat → AV} {hp : Hp} {nx : Nat} {fid : FuncId}
theorem bg.newV{args:List AV}{es:List AV}{kk f:Nat}(hs:bc P fid args [] (.vec 0) [some (.vec kk es)])(hf:mI P fid)(h1:bU args)(h2:bU es) :
  bg P n fid args f hp [] (.vec f) (fH [(f,some (.vec kk es))]):=by
 have key:=bg.hand (n:=n) (f:=f) (hp:=hp) hf hs [] rfl (by simp) (bm h1) (λi c y e1 e2=>by simp at e1) (by simp) (by simp) (show(0:Nat)<1 by omega) (λy hy=>by simp at hy;subst hy;exact bm h2);have e1:bj [] f 0=f:=by simp[bj]
 rw[bf _ h1,AV.ren,e1]at key;have e2:cC [] f [some (Blk.vec kk es)]=fH [(f,some (.vec kk es))]:=by grind [cC,List.zipIdx,Blk.ren,bf]
 rwa [e2]at key
theorem Kr{d:Option Nat}{g:AO}{xs:List AO}{os:List aN}{f:Nat}{K:S2→Nat→Prop}{args es caps:List AV}{kk:Nat}(hs:bc P fid args [] (.vec 0) [some (.vec kk es)])(hf:mI P fid)
  (h1:bU args) (h2:bU es) (hg:evO tm g=.func fid caps) (hx:xs.map (evO tm)++caps=args) (hK:evT P n os (f+16) ⟨aO d (.vec f) tm,upd hp f (some (.vec kk es))⟩ K) :
  evT P n (⟨d,.call g xs,none⟩::os) f ⟨tm,hp⟩ K:=
 xu hg hx (bg.newV hs hf h1 h2) (by rw[s9];exact hK)
end
end Go.Am
namespace Go.Am
theorem RV.int{w:World}{A:Nat→Prop}{k:IntKind}{n:Int}(h:(Lit.int k n).wf=true):RV w A (.val (.int k n)) dC (.int k n):=⟨rfl,by simpa[Lit.wf,aU,inK]using h⟩
end Go.Am
namespace Go.Am
set_option linter.defProp false
def stepD:=(F' (F' (F' (F' (F' (F' (F' @evA.eq_1 (F' @evA.eq_2 @evA.eq_3)) (F' @evA.eq_4 (F' @evA.eq_5 @evA.eq_6))) (F' (F' @evA.eq_7 (F' @evA.eq_8 @evA.eq_9)) (F' @evA.eq_10 (F' @evA.eq_11 @evA.eq_12)))) (F' (F' (F' @evA.eq_13 (F' @evA.eq_14 @evA.eq_15)) (F' @evA.eq_16 (F' @evA.eq_17 @evA.eq_18))) (F' (F' @evA.eq_19 (F' @evA.eq_20 @evA.eq_21)) (F' @evA.eq_22 (F' @evA.eq_23 @evA.eq_24))))) (F' (F' (F' (F' @evA.eq_25 (F' @evA.eq_26 @evA.eq_27)) (F' @evA.eq_28 (F' @evA.eq_29 @evA.eq_30))) (F' (F' @evA.eq_31 (F' @evA.eq_32 @evA.eq_33)) (F' @evA.eq_34 (F' @evA.eq_35 @evA.eq_36)))) (F' (F' (F' @evA.eq_37 (F' @evA.eq_38 @evA.eq_39)) (F' @evA.eq_40 (F' @evA.eq_41 @bQ.eq_1))) (F' (F' @dx.eq_1 (F' @dx.eq_2 @dx.eq_3)) (F' @dx.eq_4 (F' @dx.eq_5 @dx.eq_6)))))) (F' (F' (F' (F' (F' @dx.eq_7 (F' @dx.eq_8 @dx.eq_9)) (F' @dx.eq_10 (F' @dx.eq_11 @dx.eq_12))) (F' (F' @dx.eq_13 (F' @dx.eq_14 @dx.eq_15)) (F' @dx.eq_16 (F' @dx.eq_17 @dx.eq_18)))) (F' (F' (F' @dx.eq_19 (F' @dx.eq_20 @dx.eq_21)) (F' @dx.eq_22 (F' @dx.eq_23 @dx.eq_24))) (F' (F' @dx.eq_25 (F' @dx.eq_26 @unA.eq_1)) (F' @unA.eq_2 (F' @unA.eq_3 @jb.eq_1))))) (F' (F' (F' (F' @jb.eq_2 (F' @jb.eq_3 @jb.eq_4)) (F' @rdH.eq_1 (F' @cm.eq_1 @cm.eq_2))) (F' (F' @cm.eq_3 (F' @cm.eq_4 @cm.eq_5)) (F' @cm.eq_6 (F' @cm.eq_7 @cm.eq_8)))) (F' (F' (F' @cm.eq_9 (F' @cm.eq_10 @cm.eq_11)) (F' @cm.eq_12 (F' @cm.eq_13 @cm.eq_14))) (F' (F' @cm.eq_15 (F' @cm.eq_16 @cm.eq_17)) (F' @cm.eq_18 (F' @RA.eq_1 @AOp.opers.eq_1))))))) (F' (F' (F' (F' (F' (F' @AOp.opers.eq_2 (F' @AOp.opers.eq_3 @AOp.opers.eq_4)) (F' @AOp.opers.eq_5 (F' @AOp.opers.eq_6 @AOp.opers.eq_7))) (F' (F' @AOp.opers.eq_8 (F' @AOp.opers.eq_9 @AOp.opers.eq_10)) (F' @AOp.opers.eq_11 (F' @AOp.opers.eq_12 @AOp.opers.eq_13)))) (F' (F' (F' @AOp.opers.eq_14 (F' @AOp.opers.eq_15 @AOp.opers.eq_16)) (F' @AOp.opers.eq_17 (F' @AOp.opers.eq_18 @AOp.opers.eq_19))) (F' (F' @AOp.opers.eq_20 (F' @AOp.opers.eq_21 @AOp.opers.eq_22)) (F' @AOp.opers.eq_23 (F' @AOp.opers.eq_24 @AOp.opers.eq_25))))) (F' (F' (F' (F' @AOp.opers.eq_26 (F' @AOp.opers.eq_27 @AOp.opers.eq_28)) (F' @AOp.opers.eq_29 (F' @AOp.opers.eq_30 @AOp.opers.eq_31))) (F' (F' @AOp.opers.eq_32 (F' @AOp.opers.eq_33 @AOp.opers.eq_34)) (F' @AOp.opers.eq_35 (F' @AOp.opers.eq_36 @AOp.opers.eq_37)))) (F' (F' (F' @AOp.opers.eq_38 (F' @AOp.opers.eq_39 @AOp.opers.eq_40)) (F' @AOp.opers.eq_41 (F' @bi.eq_1 @bi.eq_2))) (F' (F' @bi.eq_3 (F' @bi.eq_4 @bi.eq_5)) (F' @bi.eq_6 (F' @dp.eq_1 @fo.eq_1)))))) (F' (F' (F' (F' (F' @nR.eq_1 (F' @dL.eq_1 @AV.solid.eq_1)) (F' @AV.solid.eq_2 (F' @AV.solid.eq_3 @AV.cells.eq_1))) (F' (F' @AV.cells.eq_2 (F' @AV.isAgg.eq_1 @AV.isAgg.eq_2)) (F' @jk.eq_1 (F' @uz.eq_1 @Kn.eq_1)))) (F' (F' (F' @je.eq_1 (F' @je.eq_2 @je.eq_3)) (F' @je.eq_4 (F' @je.eq_5 @sliceA.eq_1))) (F' (F' @sliceA.eq_2 (F' @sliceA.eq_3 @sliceA.eq_4)) (F' @sliceA.eq_5 (F' @bV.eq_1 @bV.eq_2))))) (F' (F' (F' (F' @ce.eq_1 (F' @ce.eq_2 @ce.eq_3)) (F' @ce.eq_4 (F' @ce.eq_5 @nL.eq_1))) (F' (F' @nL.eq_2 (F' @nL.eq_3 @w9.eq_1)) (F' @ug.eq_1 (F' @ri.eq_1 @AV.pure.eq_1)))) (F' (F' (F' @AV.pure.eq_2 (F' @AV.pure.eq_3 @AV.pure.eq_4)) (F' @AV.pure.eq_5 (F' @AV.pure.eq_6 @AV.pure.eq_7))) (F' (F' @AV.pure.eq_8 (F' @AV.pure.eq_9 @AV.pure.eq_10)) (F' (F' @AV.pure.eq_11 @AV.pure.eq_12) (F' @bU.eq_1 @bU.eq_2))))))))
def stepM:=F' @List.set_cons_zero.{0} (F' @List.set_cons_succ.{0} (F' @Option.isSome_some.{0} (F' @List.replicate.eq_1.{0} (F' @List.replicate.eq_2.{0} (F' @f'.{0,0} (F' @Int.toNat_natCast (F' @NH (F' @HK (F' @Sw @OK)))))))))
def aP:=F' @stepS (F' @stepD (F' @stepM (F' @eq_self.{1} (F' @implies_true.{1} (F' @implies_true.{0} (F' @forall_eq_or_imp.{1} @forall_eq.{1}))))))
end Go.Am
namespace Go.Am
theorem bD.vsub{b kk m:Nat}{hp:Hp}{es:List AV}(h:hp b=some (.vec kk es))(hx:bU es)(hm:m≤es.length):bD b hp (.vsub b 0 m) (.sl kk (es.take m) false):=by
 intro P c A μ fr tm' n a w cv H hv;obtain⟨hd,cap,o,e1,e0,e2,e3,e4,rfl⟩:=hv;obtain⟨hd',f1,f2,f3⟩:=H.vec h;rw[e1]at f1;cases f1
 rcases f3 with⟨rfl,a',f3⟩|⟨g1,g2,g4,g5,C,ty,vs,k1,k2,k3,k4,k5,k6,k7⟩
 ·rw[e0]at f3;cases f3
 have hlen:vs.length=es.length:=k2.length.symm;have ho:o=0∨cap=0:=by
  by_cases hc:0<cap
  ·left;have:=e3 hc;omega
  ·right;omega
 by_cases h0:cap=0
 ·subst h0;have:m=0:=by omega
  subst this;exact .inl ⟨by simp,_,rfl⟩
 have ho:o=0:=by omega
 subst ho
 refine .inr ⟨hd.blk,0,cap,vs.take m,?_,.inr ⟨hd,e1,g1,rfl⟩,?_,by omega,(λh=>by cases h),?_,λv hv=>⟨k4 v (T' hv),?_⟩,λp u hu=>?_,λx hx=>k3 x (T' hx)⟩
 ·rw[aa',aO' hm]
 ·rw[aa',aO' hm];exact e2
 ·refine RVL.of_get (by simp[hlen]) λi x v hxi hvi=>?_;have hi:i<m:=by
   have:=(I'.mp hxi).1;simp at this;omega
  rw[List.getElem?_take_of_lt hi]at hxi hvi;have key:RVL w (λk=>A k∨∃hd,μ b=some hd∧hd.emp=none∧hd.blk=k) es dC vs:=RVL.pure hx (RVL.mono (cJ.refl A w) (λb hb=>Or.inl hb) es (bp.refl _) k2);exact RVL.get2 key hxi hvi
 ·obtain⟨i,hi⟩:=aQ'.1 hv;have hi2:i<m:=by
   have:=(I'.mp hi).1;simp at this;omega
  rw[List.getElem?_take_of_lt hi2]at hi;have hlt:i<es.length:=by rw[k2.length];exact(I'.1 hi).1
  exact(RV.cells (k3 _ (ay' hlt)) (k2.get2 (E' hlt) hi)).2
 ·rw[flat_take k4]at hu;have hp2:p<m * kk:=by
   have:=(I'.mp hu).1;simp at this;omega
  rw[List.getElem?_take_of_lt hp2]at hu;rw[aB'];exact k7 p u hu
section
variable {P : Program} {k n : Nat} {tm : Nat → AV} {hp : Hp} {nx : Nat} {fid : FuncId}
theorem aF.giveS{kk m:Nat}{es:List AV}(t b:Nat)(ht:tm t=.vsub b 0 m)(hb:hp b=some (.vec kk es))(hx:bU es)(hm:m≤es.length):aF k n ⟨tm,hp,nx⟩ ⟨upd tm t (.sl kk (es.take m) false),upd hp b none,nx⟩:=by
 refine aF.give b rfl (λu=>.inr ?_) (λb' x hx'=>?_) (by show hp b≠none;rw[hb];simp)
 ·show bD b hp (tm u) (upd tm t (.sl kk (es.take m) false) u)
  by_cases e:u=t
  ·subst e;rw[ai,ht];exact bD.vsub hb hx hm
  ·rw[az _ _ e];exact bD.refl
 ·have hx':upd hp b none b'=some x:=hx'
  by_cases e:b'=b
  ·subst e;rw[ai]at hx';cases hx'
  ·rw[az _ _ e]at hx';exact⟨e,.inl hx'⟩
theorem bg.take{es args:List AV}{r:AV}{kk b f:Nat}(hs:bc P fid (.vec 0::args) [.vec kk es] r [none])(hf:mI P fid)
  (h0:bU args) (h1:bU es) (h2:r.pure) (hb:hp b=some (.vec kk es)):bg P n fid (.vec b::args) f hp [b] r (fH [(b,none)]):=by
 have key:=bg.hand (n:=n) (f:=f) (hp:=hp) hf hs [b] rfl (by simp) ⟨show(0:Nat)<1 by omega,bm h0⟩ (λi b' x e1 e2=>by
  match i with
  | 0=>simp at e1 e2;subst e1;subst e2;exact⟨bm h1,by rw[hb];simp only[Blk.ren,bf _ h1]⟩
  | i+1=>simp at e1) (by simp) (by simp) (AV.bel_pure h2) (λy hy=>by simp at hy)
 have e0:bj [b] f 0=b:=by simp[bj]
 have e3:cC [b] f [none]=fH [(b,none)]:=by simp[cC,List.zipIdx,e0]
 rw[e3]at key;simpa only[dm,bf _ h0,AV.ren,AV.ren_pure _ h2,e0]using key
theorem aF.drop(b:Nat):aF k n ⟨tm,hp,nx⟩ ⟨tm,upd hp b none,nx⟩:=by
 rintro P c a w ⟨h0,A,μ,H⟩;exact⟨h0,A,μ,H.drop b⟩
end
end Go.Am
namespace Go.Am
def OF(P:Program)(t:TypeId):Bool:=match P.underlying t with
 | some (.int .i64)=>true
 | _=>false
def bndT(P:Program)(t:TypeId):Bool:=match P.underlying t with
 | some (.struct fs)=>match fs.toList with
  | [f0,f1]=>OF P f0.type && OF P f1.type && Nat.beq f0.offset 0 && Nat.beq f1.offset 1 && Nat.beq (P.cellsOf f0.type) 1 && Nat.beq (P.cellsOf f1.type) 1 && Nat.beq (P.cellsOf t) 2
  | _=>false
 | _=>false
def Lt(P:Program)(n:String):Bool:=match P.globalNamed n with
 | some g=>match (P.globals[g]?).map (·.type)with
  | some t=>bndT P t
  | none=>false
 | none=>false
abbrev Lu(lo hi:Int):DataW Unit:=.agg [.lit (.int .i64 lo),.lit (.int .i64 hi)]
theorem sw{P:Program}{t:TypeId}(h:OF P t=true):P.underlying t=some (.int .i64):=by
 unfold OF at h
 split at h
 ·assumption
 ·cases h
theorem mi{P:Program}{w:World}{n:String}{lo hi:Int}{r:List (String×DataW Unit)}{ps:List MemPlace}(hb:Lt P n=true)(h:DataW.LaidVars P w ((n,Lu lo hi)::r) ps) :
  (∃g,P.globalNamed n=some g∧w.cell? ⟨g,0,none⟩=some (.int .i64 lo)∧w.cell? ⟨g,1,none⟩=some (.int .i64 hi))∧∃q,DataW.LaidVars P w r q:=by
 obtain⟨g,t,cs,fuel,p,q,hg,ht,hvar,hd,hr,_⟩:=h;refine⟨⟨g,hg,?_⟩,q,hr⟩;unfold Lt at hb;rw[hg]at hb;simp only[ht]at hb;unfold bndT at hb
 split at hb
 ·rename_i fs hu
  split at hb
  ·rename_i f0 f1 hfs;simp only[aJ']at hb;obtain⟨⟨⟨⟨⟨⟨b1,b2⟩,b3⟩,b4⟩,b5⟩,b6⟩,b7⟩:=hb;have b3:=M' b3;have b4:=M' b4;have b5:=M' b5;have b6:=M' b6;have b7:=M' b7;obtain⟨xs,m,-,hx,hl,hxl,he⟩:=DataW.trod_struct hu hd;have hfs':fs=#[f0,f1]:=by cases fs;simp_all
   subst hfs';have e0:=he 0 f0 rfl;have e1:=he 1 f1 rfl;rw[b7]at hl
   match xs,hxl with
   | [x0,x1],_ =>
   rw[b3,b5,bf']at e0;rw[b4,b6]at e1;obtain⟨s0,c0,g0,_⟩:=DataW.trod_int (sw b1) e0;obtain⟨s1,c1,g1,_⟩:=DataW.trod_int (sw b2) e1;simp only[au',cc',Prod.mk.injEq,DataW.agg.injEq,List.cons.injEq,and_true]at hx;obtain⟨⟨h0,h1⟩,_⟩:=hx;rw[g0]at h0;rw[g1]at h1;simp only[DataW.lit.injEq,Lit.int.injEq,true_and]at h0 h1;subst h0;subst h1;have k0:=World.var?_cell hg hvar 0;have k1:=World.var?_cell hg hvar 1;rw[k0,k1];obtain⟨l⟩:=cs
   match l,hl with
   | [y0,y1],_ =>
   simp at c0 c1;subst c0;subst c1;exact⟨rfl,rfl⟩
  ·cases hb
 ·cases hb
def Du(n:String):Bool:=(gvT n).isSome
def S0(P:Program):Bool:=(List.range P.globals.size).all λg=>match P.globals[g]? with
 | some G=>!Du G.name || (match P.globalNamed G.name with
  | some g'=>Nat.beq g g'
  | none=>false)
 | none=>true
theorem lT{w:World}{g:Nat}{lo hi:Int}(h0:w.cell? ⟨g,0,none⟩=some (.int .i64 lo))(h1:w.cell? ⟨g,1,none⟩=some (.int .i64 hi))(p0:inK .i64 lo)(p1:inK .i64 hi) :
  RV w (Old w) (.rptr (.agg [.int lo,.int hi]) 0) dC (.pointer (some ⟨g,0,none⟩)):=by
 refine⟨g,0,.agg #[.int .i64 lo,.int .i64 hi],rfl,(Addr.eta h0).2,⟨_,rfl,⟨_,_,rfl,⟨rfl,p0⟩,_,_,rfl,⟨rfl,p1⟩,rfl⟩,?_⟩,?_,?_⟩
 ·intro v hv;simp at hv;rcases hv with rfl|rfl<;>rfl
 ·intro c hc;simp[Value.cells]at hc;rcases hc with rfl|rfl<;>rfl
 ·intro p u hu;simp only[Value.cells]at hu
  match p with
  | 0=>simp at hu;subst hu;exact h0
  | 1=>simp at hu;subst hu;exact h1
  | p+2=>simp at hu
/-- The four variables of package signal. -/
def sigLaid : List (String × DataW Unit) := [("bitcast/signal.zero", Lu 0 0), ("bitcast/signal.number", Lu 0 1000000), ("bitcast/signal.first", Lu 1 1000000), ("bitcast/signal.group", Lu 1 99)]
theorem LtOk.laid{P:Program}{w:World}(h:laidMet P sigLaid w)(hb:(sigLaid.map (·.1)).all (Lt P)=true)(hg:S0 P=true)(ht:oX P=true):LtOk P (Old w) w:=by
 obtain⟨ps,hl,_⟩:=h;simp only[sigLaid,au',cc',List.all_cons,List.all_nil,aJ',and_true]at hb;obtain⟨b1,b2,b3,b4⟩:=hb;obtain⟨⟨g1,n1,c1,d1⟩,q1,hl⟩:=mi b1 hl;obtain⟨⟨g2,n2,c2,d2⟩,q2,hl⟩:=mi b2 hl;obtain⟨⟨g3,n3,c3,d3⟩,q3,hl⟩:=mi b3 hl;obtain⟨⟨g4,n4,c4,d4⟩,q4,hl⟩:=mi b4 hl;refine⟨λ_ hb=>hb,λg x e=>?_,λ_ _ _ _ e1 e2=>(GY ht e1 e2).elim⟩;unfold gvP at e;obtain⟨G,hG,e⟩:=bx'.mp e;have hlt:g<P.globals.size:=(bb'.mp hG).1;have hn:=ba'.mp hg g (aZ'.mpr hlt);simp only[hG,Du,e,Option.isSome_some,Bool.not_true,Bool.false_or]at hn;have hid:∀g',P.globalNamed G.name=some g'→g=g':=λg' hg'=>by
  rw[hg']at hn;exact M' hn
 unfold gvT at e
 split at e
 ·rename_i hname;cases e;rw[hid g1 (by rw[hname];exact n1)];exact lT c1 d1 (by constructor<;>decide) (by constructor<;>decide)
 split at e
 ·rename_i hname;cases e;rw[hid g2 (by rw[hname];exact n2)];exact lT c2 d2 (by constructor<;>decide) (by constructor<;>decide)
 split at e
 ·rename_i hname;cases e;rw[hid g3 (by rw[hname];exact n3)];exact lT c3 d3 (by constructor<;>decide) (by constructor<;>decide)
 split at e
 ·rename_i hname;cases e;rw[hid g4 (by rw[hname];exact n4)];exact lT c4 d4 (by constructor<;>decide) (by constructor<;>decide)
 ·cases e
end Go.Am
