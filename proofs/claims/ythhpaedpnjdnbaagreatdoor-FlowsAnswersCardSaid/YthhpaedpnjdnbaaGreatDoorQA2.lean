/- Texts joined: AmB Ld Rd. -/
import Derived.Orders
import Derived.Below
import Derived.Lib.Overlaps
import Derived.ChangeArms
import Derived.LaidLaws
import Derived.Handed
import Derived.FnData
import Derived.ChangeShapes
import Derived.ChangeSlices
import Derived.ChangeSame
import Derived.WideShapes
import Derived.RowKit
import Derived.ChangeMaps5
import Derived.Test.YthhpaedpnjdnbaaGreatDoorQA1
set_option linter.unusedVariables false
set_option linter.unusedSimpArgs false
namespace Go.Am
def AOp.opers:AOp→List AO
 | .move x|.box x|.load _ _ x|.nilc x|.un _ x|.convI _ x|.convBS x|.convS x|.convSB x|.faddr _ x|.field _ _ _ x|.ext _ x|.len x|.lenS x|.cap x|.clear _ _ x|.isNil _ _ x|.mkI _ x|.asrt _ _ x|.mlen x=>[x]
 | .pick c a b=>[c,a,b]
 | .build _ ps=>ps.map (·.2.2)
 | .lit _ _ _ ps=>ps.map (·.2)
 | .store _ a x|.bin _ a x|.binB _ a x|.eqs _ _ a x|.mks _ _ _ a x|.iaddr _ a x|.iaddrA _ _ a x|.indexA _ _ _ a x|.indexS a x|.append _ _ a x|.appendS _ a x|.copy _ a x|.appendZ _ _ _ a x|.mget _ _ _ a x|.mdel _ a x=>[a,x]
 | .mset _ a b x=>[a,b,x]
 | .mkm _=>[]
 | .mkf _ cs=>cs
 | .sliceS x lo hi|.sliceA _ _ x lo hi=>x::lo.toList++hi.toList
 | .slice _ x lo hi mx=>x::lo.toList++hi.toList++mx.toList
 | .min xs|.max xs=>xs
 | .call g xs=>g::xs
 | .bad=>[]
def be:AV→List Nat
 | .ref b _|.eref b _ _|.vec b|.vsub b _ _|.asub b _ _ _|.mref b=>[b]
 | _=>[]
theorem Bu{hp hp':Hp}{x:AV}(h:∀b∈be x,hp b=hp' b):i6 hp x=i6 hp' x:=by
 cases x<;>simp_all [i6,be]
theorem oF{hp hp':Hp}{x:AV}(h:∀b∈be x,hp b=hp' b):tO hp x=tO hp' x:=by
 cases x<;>simp_all [tO,be]
theorem nK{hp hp':Hp}{k:Nat}{x:AV}(h:∀b∈be x,hp b=hp' b):kd hp k x=kd hp' k x:=by
 cases x<;>simp_all [kd,be]
theorem hO{hp hp':Hp}{k:Nat}{x:AV}{lo hi mx:Option Int}(h:∀b∈be x,hp b=hp' b):sliceA hp k x lo hi mx=sliceA hp' k x lo hi mx:=by
 cases x<;>simp_all [sliceA,be]
theorem oj{hp hp':Hp}{f k:Nat}{x:AV}{i:Int}(h:∀b∈be x,hp b=hp' b):cz hp f k x i=cz hp' f k x i:=by
 unfold cz
 rw[hO h]
 cases x<;>simp_all [be]
theorem CM{hp hp':Hp}{f k:Nat}{x:AV}{i m:Int}(h:∀b∈be x,hp b=hp' b):jS hp f k x i m=jS hp' f k x i m:=by
 unfold jS
 rw[hO h]
 cases x<;>simp_all [be]
theorem Ai{hp hp':Hp}{k:Nat}{x:AV}(h:∀b∈be x,hp b=hp' b):sL hp k x=sL hp' k x:=by
 have e:=nK (k:=k) h
 cases x with
 | vsub b lo n =>
  have hb:=h b (by simp[be])
  simp only[sL,hb,e]
 | _=>simp only[sL,e]
theorem yR{hp hp':Hp}{k:Nat}{d:AV}{src:Option (Nat×List AV)}(h:∀b∈be d,hp b=hp' b):pC hp k d src=pC hp' k d src:=by
 unfold pC
 cases src with
 | none=>cases d<;>rfl
 | some xs=>cases d<;>simp_all [be]
theorem vd{hp hp':Hp}{k:Nat}{z d:AV}(h:∀b∈be d,hp b=hp' b):jR hp k z d=jR hp' k z d:=by
 unfold jR
 cases d<;>simp_all [be]
theorem pU{hp hp':Hp}{f k b:Nat}{z s n:AV}(h:∀b∈be s,hp b=hp' b):fS hp f k b z s n=fS hp' f k b z s n:=by
 cases s with
 | vsub b lo i =>
  have hb:=h b (by simp[be])
  unfold fS
  split
  ·rename_i e;cases e;simp only[hb]
  ·rfl
 | _=>rfl
theorem jD{hp hp':Hp}{f k b:Nat}{s:AV}{src:Option (List AV)}(h:∀b∈be s,hp b=hp' b):dV hp f k b s src=dV hp' f k b s src:=by
 unfold dV
 cases src with
 | none=>rfl
 | some xs=>cases s<;>simp_all [be]
theorem HU{op:AOp}{f:Nat}{ρ ρ':AO→AV}{hp hp':Hp}(h:∀x∈op.opers,ρ x=ρ' x)(hh:∀x∈op.opers,∀b∈be (ρ x),hp b=hp' b):evA op f ρ hp=evA op f ρ' hp':=by
 cases op with
 | build z ps =>
  have:ps.map (λp=>(p.1,p.2.1,ρ p.2.2))=ps.map (λp=>(p.1,p.2.1,ρ' p.2.2)):=List.map_congr_left λp hp=>by rw[h p.2.2 (List.mem_map.2 ⟨p,hp,rfl⟩)]
  simp only[evA,this]
 | lit k n z ps =>
  have:ps.map (λp=>(p.1,ρ p.2))=ps.map (λp=>(p.1,ρ' p.2)):=List.map_congr_left λp hp=>by rw[h p.2 (List.mem_map.2 ⟨p,hp,rfl⟩)]
  simp only[evA,this]
 | mkf g cs =>
  have:cs.map ρ=cs.map ρ':=List.map_congr_left h
  simp only[evA,this]
 | min xs =>
  have:xs.map ρ=xs.map ρ':=List.map_congr_left h
  simp only[evA,this]
 | max xs =>
  have:xs.map ρ=xs.map ρ':=List.map_congr_left h
  simp only[evA,this]
 | sliceS x lo hi =>
  simp only[AOp.opers,List.mem_cons,List.mem_append,Option.mem_toList]at h
  have h1:=h x (by simp)
  have h2:lo.map ρ=lo.map ρ':=by cases lo with|none=>rfl|some y=>rw[Option.map_some,Option.map_some,h y (by simp)]
  have h3:hi.map ρ=hi.map ρ':=by cases hi with|none=>rfl|some y=>rw[Option.map_some,Option.map_some,h y (by simp)]
  simp only[evA,h1,h2,h3]
 | sliceA n k x lo hi =>
  simp only[AOp.opers,List.mem_cons,List.mem_append,Option.mem_toList]at h
  have h1:=h x (by simp)
  have h2:lo.map ρ=lo.map ρ':=by cases lo with|none=>rfl|some y=>rw[Option.map_some,Option.map_some,h y (by simp)]
  have h3:hi.map ρ=hi.map ρ':=by cases hi with|none=>rfl|some y=>rw[Option.map_some,Option.map_some,h y (by simp)]
  simp only[evA,h1,h2,h3]
 | slice k x lo hi mx =>
  have hx:=hh x (by simp[AOp.opers])
  simp only[AOp.opers,List.mem_cons,List.mem_append,Option.mem_toList]at h
  have h1:=h x (by simp)
  have h2:lo.map ρ=lo.map ρ':=by cases lo with|none=>rfl|some y=>rw[Option.map_some,Option.map_some,h y (by simp)]
  have h3:hi.map ρ=hi.map ρ':=by cases hi with|none=>rfl|some y=>rw[Option.map_some,Option.map_some,h y (by simp)]
  have h4:mx.map ρ=mx.map ρ':=by cases mx with|none=>rfl|some y=>rw[Option.map_some,Option.map_some,h y (by simp)]
  rw[h1]at hx
  simp only[evA,h1,h2,h3,h4,hO hx,oj hx,CM hx]
 | cap x =>
  have hx:=hh x (by simp[AOp.opers])
  have h1:=h x (by simp[AOp.opers])
  rw[h1]at hx
  simp only[evA,h1]
  generalize ρ' x=X at hx
  cases X with
  | vec b=>simp only[hx b (by simp[be])]
  | sl k es full=>cases full<;>rfl
  | _=>rfl
 | copy k s x =>
  have hs:=hh s (by simp[AOp.opers])
  have hx:=hh x (by simp[AOp.opers])
  have h1:=h s (by simp[AOp.opers])
  have h2:=h x (by simp[AOp.opers])
  rw[h1]at hs;rw[h2]at hx
  simp only[evA,h1,h2,yR hs,Ai hx]
 | clear k z x =>
  have hx:=hh x (by simp[AOp.opers])
  have h1:=h x (by simp[AOp.opers])
  rw[h1]at hx
  simp only[evA,h1,vd hx]
 | appendZ k b z s x =>
  have hs:=hh s (by simp[AOp.opers])
  have h1:=h s (by simp[AOp.opers])
  have h2:=h x (by simp[AOp.opers])
  rw[h1]at hs
  simp only[evA,h1,h2,pU hs]
 | len x =>
  have hx:=hh x (by simp[AOp.opers])
  have h1:=h x (by simp[AOp.opers])
  rw[h1]at hx
  simp only[evA,h1,Bu hx]
 | mlen x =>
  have hx:=hh x (by simp[AOp.opers])
  have h1:=h x (by simp[AOp.opers])
  rw[h1]at hx
  simp only[evA,h1,oF hx]
 | mget kk z ok x y =>
  have hx:=hh x (by simp[AOp.opers])
  have h1:=h x (by simp[AOp.opers])
  have h2:=h y (by simp[AOp.opers])
  rw[h1]at hx
  simp only[evA,h1,h2,oF hx]
 | mset kk x y v =>
  have hx:=hh x (by simp[AOp.opers])
  have h1:=h x (by simp[AOp.opers])
  have h2:=h y (by simp[AOp.opers])
  have h3:=h v (by simp[AOp.opers])
  rw[h1]at hx
  simp only[evA,h1,h2,h3]
  generalize ρ' x=X at *
  cases X with
  | mref b=>simp only[hx b (by simp[be])]
  | _=>rfl
 | mdel kk x y =>
  have hx:=hh x (by simp[AOp.opers])
  have h1:=h x (by simp[AOp.opers])
  have h2:=h y (by simp[AOp.opers])
  rw[h1]at hx
  simp only[evA,h1,h2]
  generalize ρ' x=X at *
  cases X with
  | mref b=>simp only[hx b (by simp[be])]
  | _=>rfl
 | append k b s x =>
  have hs:=hh s (by simp[AOp.opers])
  have hx:=hh x (by simp[AOp.opers])
  have h1:=h s (by simp[AOp.opers])
  have h2:=h x (by simp[AOp.opers])
  rw[h1]at hs;rw[h2]at hx
  simp only[evA,h1,h2,jD hs,nK hx]
 | appendS b s x =>
  have hs:=hh s (by simp[AOp.opers])
  have h1:=h s (by simp[AOp.opers])
  have h2:=h x (by simp[AOp.opers])
  rw[h1]at hs
  simp only[evA,h1,h2,jD hs]
 | load agg size x =>
  have hx:=hh x (by simp[AOp.opers])
  have h1:=h x (by simp[AOp.opers])
  rw[h1]at hx
  simp only[evA,h1]
  generalize ρ' x=X at *
  cases X<;>simp_all [be]
 | store size x y =>
  have hx:=hh x (by simp[AOp.opers])
  have h1:=h x (by simp[AOp.opers])
  have h2:=h y (by simp[AOp.opers])
  rw[h1]at hx
  simp only[evA,h1,h2]
  generalize ρ' x=X at *
  cases X<;>simp_all [be]
 | convBS x =>
  have hx:=hh x (by simp[AOp.opers])
  have h1:=h x (by simp[AOp.opers])
  rw[h1]at hx
  simp only[evA,h1]
  generalize ρ' x=X at *
  cases X with
  | vec b=>simp only[hx b (by simp[be])]
  | asub b o n k =>
   have e:gU hp b=gU hp' b:=by simp only[gU,hx b (by simp[be])]
   match k with
   | 0=>rfl
   | 1=>simp only[e]
   | k+2=>rfl
  | sl k es full =>
   match k with
   | 0=>rfl
   | 1=>rfl
   | k+2=>rfl
  | _=>rfl
 | iaddr k x i =>
  have hx:=hh x (by simp[AOp.opers])
  have h1:=h x (by simp[AOp.opers])
  have h2:=h i (by simp[AOp.opers])
  rw[h1]at hx
  simp only[evA,h1,h2]
  generalize ρ' x=X at *
  cases X<;>simp_all [be]
 | _=>simp only[AOp.opers,List.mem_cons,List.not_mem_nil,or_false,forall_eq_or_imp,forall_eq]at h<;>simp only[evA,h]
abbrev Eff:=Nat→Option (Option Blk)
def c8(e:Eff)(hp:Hp):Hp:=λb=>match e b with|some x=>x|none=>hp b
def dq:Eff:=λ_=>none
theorem xV(hp:Hp):c8 dq hp=hp:=rfl
def gq(o:Out):Eff:=λb=>match o.ad with
 | some (f,x)=>if b=f then some (some x)else if o.rm=some b then some none else none
 | none=>if o.rm=some b then some none else none
theorem dZ(o:Out)(hp:Hp):c8 (gq o) hp=bD o hp:=by
 funext b
 unfold c8 gq bD
 cases o.ad with
 | none =>
  cases o.rm with
  | none=>simp
  | some r =>
   by_cases h:b=r
   ·subst h;simp[upd]
   ·have h':¬r=b:=λe=>h e.symm
    simp[upd,h,h']
 | some p =>
  obtain⟨f,x⟩:=p
  by_cases hf:b=f
  ·simp[upd,hf]
  ·cases o.rm with
   | none=>simp[upd,hf]
   | some r =>
    by_cases h:b=r
    ·subst h;simp[upd,hf]
    ·have h':¬r=b:=λe=>h e.symm
     simp[upd,hf,h,h']
def jg(P:Program)(n:Nat)(o:Oper)(f:Nat)(tm:Nat→AV)(hp:Hp)(rd:List Nat)(v:AV)(e:Eff):Prop:=
 ∀(c:Ctx) (A:Nat→Prop) (μ:Mu) (fr:Nat→Prop) (tm':Nat→AV) (hp':Hp) (a:Act) (w:World) (K:Act→World→Prop) (Q:Exit→Act→World→Prop),
  aI P c A μ fr tm' hp' n a w→(∀t,AO.t t∈(cOp P o.op o.type).opers→tm' t=tm t)→(∀b∈rd,hp' b=hp b)→(∀j,j<16→fr (f+j)) →
  (∀a' w' A' μ',aI P c A' μ' (λb=>fr b∧¬(f≤b∧b<f+16)) (aY o.dst v tm') (c8 e hp') n a' w'→K a' w')→o.wp P a w K Q
def UF(op:AOp)(tm:Nat→AV):List Nat:=op.opers.flatMap λx=>be (evO tm x)
theorem DT{P:Program}{n:Nat}{o:Oper}{f:Nat}{tm:Nat→AV}{hp:Hp}(hd:∀d,o.dst=some d→d<n)(hc:(evA (cOp P o.op o.type) f (evO tm) hp).c) :
  jg P n o f tm hp (UF (cOp P o.op o.type) tm) (evA (cOp P o.op o.type) f (evO tm) hp).v (gq (evA (cOp P o.op o.type) f (evO tm) hp)):=by
 intro c A μ fr tm' hp' a w K Q H h1 h2 h3 hK
 have hev:∀x∈(cOp P o.op o.type).opers,evO tm' x=evO tm x:=by
  intro x hx
  cases x with
  | t t=>exact h1 t hx
  | c x=>rfl
 have heq:evA (cOp P o.op o.type) f (evO tm') hp'=evA (cOp P o.op o.type) f (evO tm) hp:=by
  refine HU hev λx hx b hb=>h2 b ?_
  rw[hev x hx]at hb
  exact List.mem_flatMap.2 ⟨x,hx,hb⟩
 rw[←heq]at hc hK
 obtain⟨cv,w',A',μ',e1,e2,e3⟩:=HS o H (by simpa using h3 0 (by omega)) hc
 have hrel:aI P c A' μ' (λb=>fr b∧¬(f≤b∧b<f+16)) (aY o.dst (evA (cOp P o.op o.type) f (evO tm') hp').v tm') (c8 (gq (evA (cOp P o.op o.type) f (evO tm') hp')) hp') n (a.put o.dst cv) w':=by
  rw[dZ]
  have:=(e2.free (fr':=λb=>fr b∧¬(f≤b∧b<f+16)) λb hb=>⟨hb.1,λe=>hb.2 (by omega)⟩).put o.dst hd e3
  exact this
 unfold Oper.wp
 rcases e1 with e1|⟨e1,rfl⟩
 ·rw[e1,Oper.upon_value];exact hK _ _ _ _ hrel
 ·rw[e1,Oper.upon_skip];exact hK _ _ _ _ hrel
theorem mc{ptr:Bool}{y:Operand}(h:oR ptr y=true):∃v,y=.const v∧((ptr=false∧∃n c,v=.slice none n c)∨(ptr=true∧v=.pointer none)):=by
 unfold oR at h
 split at h
 ·exact⟨_,rfl,.inl ⟨by simpa using h,_,_,rfl⟩⟩
 ·exact⟨_,rfl,.inr ⟨h,rfl⟩⟩
 ·cases h
theorem rU{P:Program}{ptr ptr' ne:Bool}{op:BinOp}{x y:Operand}{x':AO}(h:jT P ptr op x y=.isNil ptr' ne x'):ptr'=ptr∧x'=cO P x∧op=(if ne then .neq else .eql)∧oR ptr y=true:=by
 unfold jT at h
 split at h
 ·rename_i hy
  split at h<;>cases h<;>exact⟨rfl,rfl,rfl,hy⟩
 ·cases h
theorem Iu{P:Program}{op:Op}{ty:TypeId}{ptr ne:Bool}{x:AO}(ho:cOp P op ty=.isNil ptr ne x) :
  ∃b t x' v yt e,op=.binOp b t x' (.const v) yt∧x=cO P x'∧b=(if ne then .neq else .eql)∧((ptr=false∧P.underlying t=some (.slice e)∧∃n c,v=.slice none n c)∨(ptr=true∧P.underlying t=some (.pointer e)∧v=.pointer none)):=by
 cases op with
 | call c =>
  obtain⟨callee,args,ts⟩:=c
  cases callee with
  | value g'=>simp only[cOp,fO]at ho;cases ho
  | invoke r m=>simp[cOp,fO]at ho
  | builtin b =>
   simp only[cOp,fO]at ho
   (repeat' split at ho)<;>cases ho
 | makeFunc fn first captured =>
  cases fn<;>simp only[cOp]at ho<;>(repeat' split at ho)<;>cases ho
 | makeMap t r=>cases r<;>simp only[cOp]at ho<;>(repeat' split at ho)<;>cases ho
 | typeAssert x' st t ok=>cases ok<;>simp only[cOp]at ho<;>(repeat' split at ho)<;>cases ho
 | binOp op t x' y yt =>
  simp only[cOp]at ho
  split at ho
  ·(repeat' split at ho)<;>cases ho
  ·cases ho
  ·cases ho
  ·cases ho
  ·rename_i e hu
   obtain⟨rfl,h2,h3,h4⟩:=rU ho
   obtain⟨v,rfl,h5⟩:=mc h4
   refine⟨op,t,x',v,yt,e,rfl,h2,h3,.inl ?_⟩
   rcases h5 with⟨_,h5⟩|⟨h5,_⟩
   ·exact⟨rfl,hu,h5⟩
   ·cases h5
  ·rename_i e hu
   obtain⟨rfl,h2,h3,h4⟩:=rU ho
   obtain⟨v,rfl,h5⟩:=mc h4
   refine⟨op,t,x',v,yt,e,rfl,h2,h3,.inr ?_⟩
   rcases h5 with⟨h5,_⟩|⟨_,h5⟩
   ·cases h5
   ·exact⟨rfl,hu,h5⟩
  ·cases ho
 | _=>simp only[cOp,pN]at ho<;>(repeat' split at ho)<;>cases ho
theorem Pu{P:Program}{n:Nat}{o:Oper}{tm:Nat→AV}{hp:Hp}{ptr ne:Bool}{x:AO}(ho:cOp P o.op o.type=.isNil ptr ne x)(hd:∀d,o.dst=some d→d<n)(hok:kz ptr (evO tm x))
  {c:Ctx} {A:Nat→Prop} {μ:Mu} {fr:Nat→Prop} {a:Act} {w:World} {K:Act→World→Prop} {Q:Exit→Act→World→Prop} (H:aI P c A μ fr tm hp n a w)
  (hK:∀t,tI hp (evO tm x) t→∀a',aI P c A μ fr (aY o.dst (.bool (t != ne)) tm) hp n a' w→K a' w):o.wp P a w K Q:=by
 obtain⟨b,t,x',v,yt,e,h1,rfl,h3,h4⟩:=Iu ho
 obtain⟨tt,g1,g2⟩:=En (P:=P) (T:=t) (e:=e) (op:=b) (y:=v) h3 h4 H (H.ev x') hok
 have hg:(eqGuard b t x' (.const v) (a.eval x') (a.eval (.const v))).run P w=.ok () w:=by
  have hv:a.eval (.const v)=v:=rfl
  rw[hv]
  subst h3
  rcases h4 with⟨_,_,n',c',rfl⟩|⟨_,_,rfl⟩<;>(unfold eqGuard;cases ne<;>cases a.eval x'<;>rfl)
 have he:(execOp a.eval o).run P w=.ok (.value (.bool (tt != ne))) w:=by
  unfold execOp
  rw[h1]
  simp only[Sem.run_bind,hg,Result.andThen_ok]
  rw[show a.eval (.const v)=v from rfl,g2]
  rfl
 unfold Oper.wp
 rw[he,Oper.upon_value]
 exact hK tt g1 _ (H.put o.dst hd (cM _))
theorem NJ{P:Program}{ptr:Bool}{op:BinOp}{x y:Operand}{k n:Nat}{z:AV}{ps:List (Nat×AO)}(h:jT P ptr op x y=.lit k n z ps):False:=by
 unfold jT at h
 split at h
 ·split at h<;>cases h
 ·cases h
theorem Ss{P:Program}{op:Op}{ty:TypeId}{k N:Nat}{z:AV}{ps:List (Nat×AO)}(ho:cOp P op ty=.lit k N z ps) :
  ∃t parts e,op=.buildSlice t N parts∧P.underlying t=some (.slice e)∧sizeOf? P e=some k∧cm P e=some z∧(0<k∧z.solid=true∧z.cells.length=k∧N * k≤2 ^ 24)∧ps=parts.toList.map λ(i,x)=>(i,cO P x):=by
 cases op with
 | call c =>
  obtain⟨callee,args,ts⟩:=c
  cases callee with
  | value g'=>simp only[cOp,fO]at ho;cases ho
  | invoke r m=>simp[cOp,fO]at ho
  | builtin b =>
   simp only[cOp,fO]at ho
   (repeat' split at ho)<;>cases ho
 | makeFunc fn first captured =>
  cases fn<;>simp only[cOp]at ho<;>(repeat' split at ho)<;>cases ho
 | makeMap t r=>cases r<;>simp only[cOp]at ho<;>(repeat' split at ho)<;>cases ho
 | typeAssert x' st t ok=>cases ok<;>simp only[cOp]at ho<;>(repeat' split at ho)<;>cases ho
 | binOp op t x' y yt =>
  simp only[cOp]at ho
  (repeat' split at ho)<;>first|exact(NJ ho).elim|cases ho
 | buildSlice t N' parts =>
  simp only[cOp]at ho
  split at ho
  case h_2=>cases ho
  rename_i e hu
  split at ho
  case h_2=>cases ho
  rename_i k' z' hs hz
  split at ho
  case isFalse=>cases ho
  rename_i hk
  cases ho
  exact⟨t,parts,e,rfl,hu,hs,hz,hk,rfl⟩
 | _=>simp only[cOp,pN]at ho<;>(repeat' split at ho)<;>cases ho
theorem Ti{P:Program}{n:Nat}{o:Oper}{f:Nat}{tm:Nat→AV}{hp:Hp}{k N:Nat}{z:AV}{ps:List (Nat×AO)}(ho:cOp P o.op o.type=.lit k N z ps)(hd:∀d,o.dst=some d→d<n)(hc:(evL k N z ps f (evO tm)).c) :
  jg P n o f tm hp [] (evL k N z ps f (evO tm)).v (gq (evL k N z ps f (evO tm))):=by
 intro c A μ fr tm' hp' a w K Q H h1 h2 h3 hK
 rw[ho]at h1
 have hev:∀x∈(AOp.lit k N z ps).opers,evO tm' x=evO tm x:=by
  intro x hx
  cases x with
  | t t=>exact h1 t hx
  | c x=>rfl
 have heq:evL k N z ps f (evO tm')=evL k N z ps f (evO tm):=by
  have:ps.map (λp=>(p.1,evO tm' p.2))=ps.map (λp=>(p.1,evO tm p.2)):=List.map_congr_left λp hp=>by rw[hev p.2 (List.mem_map.2 ⟨p,hp,rfl⟩)]
  simp only[evL,this]
 rw[←heq]at hc hK
 obtain⟨t,parts,e,g1,g2,g3,g4,g5,rfl⟩:=Ss ho
 have hdo:=bV.next (Ic (P:=P) (a:=a) g2 g3 g4 g5 H (by simpa using h3 0 (by omega)) hc)
 obtain⟨cv,w',A',μ',e1,e2,e3⟩:=hdo
 have hrel:aI P c A' μ' (λb=>fr b∧¬(f≤b∧b<f+16)) (aY o.dst (evL k N z (parts.toList.map λ(i,x)=>(i,cO P x)) f (evO tm')).v tm') (c8 (gq (evL k N z (parts.toList.map λ(i,x)=>(i,cO P x)) f (evO tm'))) hp') n (a.put o.dst cv) w':=by
  rw[dZ]
  exact(e2.free (fr':=λb=>fr b∧¬(f≤b∧b<f+16)) λb hb=>⟨hb.1,λe=>hb.2 (by omega)⟩).put o.dst hd e3
 have hex:execOp a.eval o=(do pure (.value (←Instr.buildSlice t N (parts.map λ(i,x)=>(i,a.eval x))))):=by
  unfold execOp;rw[g1]
 rw[←hex]at e1
 unfold Oper.wp
 rcases e1 with e1|⟨e1,rfl⟩
 ·rw[e1,Oper.upon_value];exact hK _ _ _ _ hrel
 ·rw[e1,Oper.upon_skip];exact hK _ _ _ _ hrel
def OG(P:Program)(n:Nat)(fid:FuncId)(args:List AV)(hp:Hp)(foot:List Nat)(v:AV):Prop:=
 ∀(c:Ctx) (A:Nat→Prop) (μ:Mu) (fr:Nat→Prop) (tm':Nat→AV) (hp':Hp) (a:Act) (w:World) (cargs:List Value),aI P c A μ fr tm' hp' n a w→(∀b∈foot,hp' b=hp b)→RVL w A args μ cargs →
  ∃cv,(callFunc fid cargs.toArray).run P w=.ok (.value cv) w∧RV w A v μ cv
def bE (P : Program) (n : Nat) (fid : FuncId) (args : List AV) (f : Nat) (hp : Hp) (foot : List Nat) (v : AV) (e : Eff) : Prop :=
  (∃ fn, P.funcs[fid]? = some fn ∧ fn.body.isSome = true ∧ (fn.name == "runtime.NumGoroutine") = false) ∧
  ∀ (c : Ctx) (A : Nat → Prop) (μ : Mu) (fr : Nat → Prop) (tm' : Nat → AV) (hp' : Hp) (a : Act) (w : World) (cargs : List Value),
    aI P c A μ fr tm' hp' n a w → (∀ b ∈ foot, hp' b = hp b) → (∀ j, j < 16 → fr (f + j)) → RVL w A args μ cargs →
    Calls P fid cargs.toArray w fun e' w' => ∃ cv A' μ', e' = .returned cv ∧ aI P c A' μ' (fun b => fr b ∧ ¬ (f ≤ b ∧ b < f + 16)) tm' (c8 e hp') n a w' ∧ RV w' A' v μ' cv
theorem Ci {P : Program} {w : World} {a : Act} {o : Oper} {g : Operand} {args : Array Operand} {ts : Array TypeId} (ho : o.op = .call { callee := .value g, args := args, argTypes := ts })
    {fid : FuncId} {caps : Array Value} (hg : a.eval g = .func (.func fid) #[] caps) {fn : Func} (hf : P.funcs[fid]? = some fn) (hb : fn.body.isSome = true) (hn : (fn.name == "runtime.NumGoroutine") = false) :
    (execOp a.eval o).run P w = .ok (.enter fid (args.map a.eval ++ caps)) w := by
  have hb' : fn.body.isNone = false := by cases h : fn.body <;> simp_all
  unfold execOp
  rw [ho]
  simp only [resolve, hg, Deferred.ofValue, Sem.run_bind, Sem.run_pure, Result.andThen_ok, invoke, callFunc, run_program, hf, hn, hb', Bool.false_eq_true, ↓reduceIte]
  simp
theorem Iv{P:Program}{ptr:Bool}{op:BinOp}{x y:Operand}{g:AO}{xs:List AO}(h:jT P ptr op x y=.call g xs):False:=by
 unfold jT at h
 split at h
 ·split at h<;>cases h
 ·cases h
theorem ze{P:Program}{op:Op}{ty:TypeId}{g:AO}{xs:List AO}(ho:cOp P op ty=.call g xs) :
    ∃g' args ts,op=.call { callee:=.value g',args:=args,argTypes:=ts }∧g=cO P g'∧xs=args.toList.map (cO P):=by
  cases op with
  | call c =>
    obtain⟨callee,args,ts⟩:=c
    cases callee with
    | value g'=>simp only[cOp,fO,AOp.call.injEq]at ho;exact⟨g',args,ts,rfl,ho.1.symm,ho.2.symm⟩
    | invoke r m=>simp[cOp,fO]at ho
    | builtin b =>
      simp only[cOp,fO]at ho
      (repeat' split at ho)<;>cases ho
  | makeFunc fn first captured =>
    cases fn<;>simp only[cOp]at ho<;>(repeat' split at ho)<;>cases ho
  | makeMap t r=>cases r<;>simp only[cOp]at ho<;>(repeat' split at ho)<;>cases ho
  | typeAssert x' st t ok=>cases ok<;>simp only[cOp]at ho<;>(repeat' split at ho)<;>cases ho
  | binOp op t x y yt =>
    simp only[cOp]at ho
    (repeat' split at ho)<;>first|exact(Iv ho).elim|cases ho
  | _=>simp only[cOp,pN]at ho<;>(repeat' split at ho)<;>cases ho
theorem Cj{P:Program}{w:World}{a:Act}{o:Oper}{g:Operand}{args:Array Operand}{ts:Array TypeId}(ho:o.op=.call { callee:=.value g,args:=args,argTypes:=ts })
    {fid:FuncId} {caps:Array Value} (hg:a.eval g=.func (.func fid) #[] caps) :
    (execOp a.eval o).run P w=(callFunc fid (args.map a.eval++caps)).run P w:=by
  unfold execOp
  rw[ho]
  simp only[resolve,hg,Deferred.ofValue,Sem.run_bind,Sem.run_pure,Result.andThen_ok,invoke]
  simp
theorem DS{P:Program}{n:Nat}{o:Oper}{f:Nat}{tm:Nat→AV}{hp:Hp}{g:AO}{xs:List AO}(ho:cOp P o.op o.type=.call g xs)(hd:∀d,o.dst=some d→d<n)
  {fid:FuncId} {caps:List AV} (hg:evO tm g=.func fid caps) {foot:List Nat} {v:AV} (h:OG P n fid (xs.map (evO tm)++caps) hp foot v):jg P n o f tm hp foot v dq:=by
 intro c A μ fr tm' hp' a w K Q H h1 h2 h3 hK
 have hev:∀x∈(cOp P o.op o.type).opers,evO tm' x=evO tm x:=by
  intro x hx
  cases x with
  | t t=>exact h1 t hx
  | c x=>rfl
 have hop:=ze ho
 obtain⟨g',args,ts,ho',rfl,rfl⟩:=hop
 rw[ho]at hev
 have hg':=hev (cO P g') (by simp[AOp.opers])
 have hgr:=H.ev g'
 rw[hg',hg]at hgr
 obtain⟨cvs,e1,e2⟩:=hgr
 have hxs:(args.toList.map (cO P)).map (evO tm)=args.toList.map λx=>evO tm' (cO P x):=by
  rw[List.map_map]
  refine List.map_congr_left λx hx=>?_
  exact(hev (cO P x) (by simp only[AOp.opers,List.mem_cons,List.mem_map];exact .inr ⟨x,hx,rfl⟩)).symm
 rw[hxs]at h
 have hargs:=(H.evs args.toList).append e2
 obtain⟨cv,q1,q2⟩:=h c A μ fr tm' hp' a w _ H h2 hargs
 unfold Oper.wp
 have ea:args.map a.eval++cvs.toArray=(args.toList.map a.eval++cvs).toArray:=by apply Array.ext';simp
 rw[Cj ho' e1,ea,q1,Oper.upon_value]
 exact hK _ _ _ _ ((H.free λb hb=>hb.1).put o.dst hd q2)
theorem wc{P:Program}{n:Nat}{o:Oper}{f:Nat}{tm:Nat→AV}{hp:Hp}{g:AO}{xs:List AO}(ho:cOp P o.op o.type=.call g xs)(hd:∀d,o.dst=some d→d<n)
  {fid:FuncId} {caps:List AV} (hg:evO tm g=.func fid caps) {foot:List Nat} {v:AV} {e:Eff} (h:bE P n fid (xs.map (evO tm)++caps) f hp foot v e):jg P n o f tm hp foot v e:=by
 intro c A μ fr tm' hp' a w K Q H h1 h2 h3 hK
 have hev:∀x∈(cOp P o.op o.type).opers,evO tm' x=evO tm x:=by
  intro x hx
  cases x with
  | t t=>exact h1 t hx
  | c x=>rfl
 obtain⟨⟨fn,f1,f2,f3⟩,hcall⟩:=h
 have hop:=ze ho
 obtain⟨g',args,ts,ho',rfl,rfl⟩:=hop
 rw[ho]at hev
 have hg':=hev (cO P g') (by simp[AOp.opers])
 have hgr:=H.ev g'
 rw[hg',hg]at hgr
 obtain⟨cvs,e1,e2⟩:=hgr
 have hxs:(args.toList.map (cO P)).map (evO tm)=args.toList.map λx=>evO tm' (cO P x):=by
  rw[List.map_map]
  refine List.map_congr_left λx hx=>?_
  exact(hev (cO P x) (by simp only[AOp.opers,List.mem_cons,List.mem_map];exact .inr ⟨x,hx,rfl⟩)).symm
 rw[hxs]at hcall
 have hargs:=(H.evs args.toList).append e2
 have:=hcall c A μ fr tm' hp' a w _ H h2 h3 hargs
 unfold Oper.wp
 rw[Ci ho' e1 f1 f2 f3,Oper.upon_enter]
 have ea:args.map a.eval++cvs.toArray=(args.toList.map a.eval++cvs).toArray:=by apply Array.ext';simp
 rw[ea]
 refine this.mono ?_
 rintro e' w' ⟨cv,A',μ',rfl,r1,r2⟩
 exact hK _ _ _ _ (r1.put o.dst hd r2)
end Go.Am
namespace Go.Am
def vD (P : Program) (fid : FuncId) : Prop := ∃ fn, P.funcs[fid]? = some fn ∧ fn.body.isSome = true ∧ (fn.name == "runtime.NumGoroutine") = false
theorem Ext.step{P:Program}{c:Ctx}{A:Nat→Prop}{μ:Mu}{fr:Nat→Prop}{tm:Nat→AV}{hp:Hp}{n:Nat}{a:Act}{w w':World}(H:aI P c A μ fr tm hp n a w)
  (h:Ext (λ_=>False) w w') (A':Nat→Prop) (h1:∀b,A b→A' b) (h2:∀b,A' b→A b∨w.heap.size≤b) (h3:∀b,A' b→b<w'.heap.size):aI P c A' μ fr tm hp n a w':=by
 obtain⟨r,_⟩:=H.step h.os h.tape h.output h.size hp (λ_ _ h=>h) (λk hk _=>h.block k hk (λh=>h)) (λb=>A' b∧w.heap.size≤b) (λb hb=>⟨hb.2,h3 b hb.1⟩)
 have:(λb=>A b∨(A' b∧w.heap.size≤b))=A':=by
  funext b
  apply propext
  constructor
  ·rintro(h|h)
   ·exact h1 b h
   ·exact h.1
  ·intro h
   rcases h2 b h with h'|h'
   ·exact .inl h'
   ·exact .inr ⟨h,h'⟩
 rwa [this]at r
theorem bE.pure{P:Program}{n:Nat}{fid:FuncId}{args:List AV}{f:Nat}{hp:Hp}{r:AV}(hf:vD P fid)(hs:ao P fid args r)(hp1:cI args):bE P n fid args f hp [] r dq:=by
 refine⟨hf,?_⟩
 intro c A μ fr tm' hp' a w cargs H _ _ h3
 refine(hs w A cargs H.lt (RVL.pure hp1 h3)).mono ?_
 rintro e w' ⟨v,A',rfl,r1,r2,r3,r4,r5⟩
 exact⟨v,A',μ,rfl,(Ext.step H r2 A' r3 r4 r5).free λb hb=>hb.1,r1.up⟩
def fi(foot:List Nat)(hp:Hp)(x y:AV):Prop:=
 ∀(P:Program) (c:Ctx) (A:Nat→Prop) (μ:Mu) (fr:Nat→Prop) (tm':Nat→AV) (hp':Hp) (n:Nat) (a:Act) (w:World) (cv:Value),aI P c A μ fr tm' hp' n a w→(∀b∈foot,hp' b=hp b) →
  RV w A x μ cv→RV w (λb=>A b∨dP μ hp' b) y cR cv
def jf(foot:List Nat)(hp:Hp):List AV→List AV→Prop
 | [],[]=>True
 | x::xs,y::ys=>fi foot hp x y∧jf foot hp xs ys
 | _,_=>False
theorem jf.rvl{P:Program}{foot:List Nat}{hp:Hp}{c:Ctx}{A:Nat→Prop}{μ:Mu}{fr:Nat→Prop}{tm':Nat→AV}{hp':Hp}{n:Nat}{a:Act}{w:World}(H:aI P c A μ fr tm' hp' n a w)(hh:∀b∈foot,hp' b=hp b) :
  ∀{xs ys:List AV} {vs:List Value},jf foot hp xs ys→RVL w A xs μ vs→RVL w (λb=>A b∨dP μ hp' b) ys cR vs
 | [],[],_,_,h=>h
 | x::xs,y::ys,_,hv,⟨v,vs',h1,h2,h3⟩=>⟨v,vs',h1,hv.1 P c A μ fr tm' hp' n a w v H hh h2,jf.rvl H hh hv.2 h3⟩
 | [],_::_,_,hv,_=>hv.elim
 | _::_,[],_,hv,_=>hv.elim
theorem fi.pure{foot:List Nat}{hp:Hp}{x:AV}(h:x.pure):fi foot hp x x:=
 λP c A μ fr tm' hp' n a w cv H _ hv=>RV.pure h (hv.mono (dc.refl A w) (λb hb=>.inl hb) x (bv.refl _))
theorem fi.ref{foot:List Nat}{hp:Hp}{b off:Nat}{x:AV}(hb:b∈foot)(h:hp b=some (.box x))(hx:x.pure):fi foot hp (.ref b off) (.rptr x off):=by
 intro P c A μ fr tm' hp' n a w cv H hh hv
 obtain⟨hd,e1,e2,rfl⟩:=hv
 obtain⟨hd',v,ty,f1,f2,f3,f4,f5,f6⟩:=H.box ((hh b hb).trans h)
 rw[e1]at f1;cases f1
 obtain⟨hd',g1,_,g3⟩:=H.blk b _ ((hh b hb).trans h)
 rw[e1]at g1;cases g1
 refine⟨hd.blk,0,v,by simp,.inr ⟨b,_,hd,(hh b hb).trans h,e1,e2,rfl⟩,RV.pure hx (f4.mono (dc.refl A w) (λb hb=>.inl hb) x (bv.refl _)),(RV.cells f3 f4).2,λp u hu=>f6 p u hu⟩
theorem fi.vec{foot:List Nat}{hp:Hp}{b k:Nat}{es:List AV}(hb:b∈foot)(h:hp b=some (.vec k es))(hx:cI es):fi foot hp (.vec b) (.sl k es false):=by
 intro P c A μ fr tm' hp' n a w cv H hh hv
 obtain⟨hd,e1,rfl⟩:=hv
 obtain⟨hd',f1,f2,f3⟩:=H.vec ((hh b hb).trans h)
 rw[e1]at f1;cases f1
 obtain⟨hd',g1,_,g3⟩:=H.blk b _ ((hh b hb).trans h)
 rw[e1]at g1;cases g1
 rcases f3 with⟨rfl,a',f3⟩|⟨g1,g2,g4,g5,C,ty,vs,k1,k2,k3,k4,k5,k6,k7⟩
 ·rw[Hd.val,f3]
  exact .inl ⟨rfl,a',rfl⟩
 ·have hv:hd.val=.slice (some ⟨hd.blk,0,none⟩) es.length hd.cap:=by rw[Hd.val,g1,g2]
  rw[hv]
  refine .inr ⟨hd.blk,0,hd.cap,vs,rfl,.inr ⟨b,_,hd,(hh b hb).trans h,e1,g1,rfl⟩,by omega,g5,(λh=>by cases h),RVL.pure hx (RVL.mono (dc.refl A w) (λb hb=>.inl hb) es (bv.refl _) k2),λv hv=>⟨k4 v hv,?_⟩,λp u hu=>by rw[Nat.zero_add];exact k7 p u hu,k3⟩
  obtain⟨i,hi⟩:=List.mem_iff_getElem?.1 hv
  have hlt:i<es.length:=by rw[k2.length];exact(List.getElem?_eq_some_iff.1 hi).1
  have hxe:es[i]?=some es[i]:=List.getElem?_eq_getElem hlt
  exact(RV.cells (k3 _ (List.getElem_mem hlt)) (k2.get2 hxe hi)).2
theorem fi.map{foot:List Nat}{hp:Hp}{b:Nat}{kk:Option Nat}{ks:List MK}{vs:List AV}(hb:b∈foot)(h:hp b=some (.map kk ks vs))(hx:cI vs):fi foot hp (.mref b) (.mp kk ks vs):=by
 intro P c A μ fr tm' hp' n a w cv H hh hv
 obtain⟨hd,e1,e2,rfl⟩:=hv
 obtain⟨hd',ents,clock,g1,g2,g3,g4,g5,g6⟩:=H.mapBlk ((hh b hb).trans h)
 rw[e1]at g1;cases g1
 exact⟨_,ents,clock,rfl,.inr ⟨b,_,hd,(hh b hb).trans h,e1,e2,rfl⟩,g3,g4,RVL.pure hx (RVL.mono (dc.refl A w) (λb hb=>.inl hb) vs (bv.refl _) g5),g6⟩
theorem jf.cons{foot:List Nat}{hp:Hp}{x y:AV}{xs ys:List AV}(h:fi foot hp x y)(t:jf foot hp xs ys):jf foot hp (x::xs) (y::ys):=⟨h,t⟩
theorem fi.agg{foot:List Nat}{hp:Hp}{xs ys:List AV}(h:jf foot hp xs ys):fi foot hp (.agg xs) (.agg ys):=by
 rintro P c A μ fr tm' hp' n a w cv H hh ⟨vs,e1,e2,e3⟩
 exact⟨vs,e1,h.rvl H hh e2,e3⟩
theorem fi.func{foot:List Nat}{hp:Hp}{g:FuncId}{xs ys:List AV}(h:jf foot hp xs ys):fi foot hp (.func g xs) (.func g ys):=by
 rintro P c A μ fr tm' hp' n a w cv H hh ⟨vs,e1,e2⟩
 exact⟨vs,e1,h.rvl H hh e2⟩
theorem bE.lend{P:Program}{n:Nat}{fid:FuncId}{args args':List AV}{f:Nat}{hp:Hp}{foot:List Nat}{r:AV}(hf:vD P fid)(hs:ao P fid args' r)(hv:jf foot hp args args')(hr:r.flat) :
  bE P n fid args f hp foot r dq:=by
 refine⟨hf,?_⟩
 intro c A μ fr tm' hp' a w cargs H h1 _ h3
 refine(hs w (λb=>A b∨dP μ hp' b) cargs (H.lt.mono (dc.refl A w) (λb hb=>.inl hb) λb h=>?_) (hv.rvl H h1 h3)).mono ?_
 ·rcases h with h|⟨b',x,hd,e1,e2,e3,rfl⟩
  ·exact H.lt b h
  ·obtain⟨hd',g1,_,g3⟩:=H.blk b' x e1
   rw[e2]at g1;cases g1
   exact(g3 e3).2.1
 rintro e w' ⟨v,A',rfl,r1,r2,r3,r4,r5⟩
 exact⟨v,A,μ,rfl,(Ext.step H r2 A (λ_ h=>h) (λ_ h=>.inl h) (λb hb=>Nat.lt_of_lt_of_le (H.lt b hb) r2.size)).free λb hb=>hb.1,RV.flat hr r1⟩
def fY:List (Nat×Option Blk)→Eff
 | []=>dq
 | (b,x)::l=>λc=>if c=b then some x else fY l c
theorem BH(b:Nat)(x:Option Blk)(l:List (Nat×Option Blk))(hp:Hp):c8 (fY ((b,x)::l)) hp=upd (c8 (fY l) hp) b x:=by
 funext c
 by_cases h:c=b
 ·subst h;simp[c8,fY,upd]
 ·have:fY ((b,x)::l) c=fY l c:=by
   show(if c=b then some x else fY l c)=_
   rw[if_neg h]
  simp only[c8,this,upd,if_neg h]
theorem HF(hp:Hp):c8 (fY []) hp=hp:=rfl
def bi(bs:List Nat)(f:Nat)(i:Nat):Nat:=if i<bs.length then bs.getD i 0 else f+(i-bs.length)
def eO(bs:List Nat)(f:Nat)(h':List (Option Blk)):Eff:=
 fY (h'.zipIdx.map λ(x,i)=>(bi bs f i,x.map (Blk.ren (bi bs f))))
theorem rL(bs:List Nat)(f:Nat)(g:Option Blk→Option Blk):∀(h':List (Option Blk)) (k:Nat) (b:Nat),
  (∀i j,k≤i→i<k+h'.length→k≤j→j<k+h'.length→bi bs f i=bi bs f j→i=j) →
  (∀i,k≤i→i<k+h'.length→bi bs f i=b→fY ((h'.zipIdx k).map λ(x,i)=>(bi bs f i,g x)) b=some (g (h'.getD (i-k) none))) ∧
  ((∀i,k≤i→i<k+h'.length→bi bs f i≠b)→fY ((h'.zipIdx k).map λ(x,i)=>(bi bs f i,g x)) b=none)
 | [],k,b,_=>⟨λi h1 h2=>by simp at h2;omega,λ_=>rfl⟩
 | x::h',k,b,hinj=>by
  obtain⟨ih1,ih2⟩:=rL bs f g h' (k+1) b (λi j h1 h2 h3 h4=>hinj i j (by omega) (by simp;omega) (by omega) (by simp;omega))
  refine⟨λi h1 h2 h3=>?_,λhn=>?_⟩
  ·simp only[List.zipIdx_cons,List.map_cons,fY]
   by_cases hik:i=k
   ·subst hik
    rw[if_pos h3.symm];simp
   ·have hne:b≠bi bs f k:=by
     rintro rfl
     exact hik (hinj i k h1 h2 (Nat.le_refl _) (by simp) h3)
    rw[if_neg hne,ih1 i (by omega) (by simp at h2;omega) h3]
    congr 2
    have:i-k=(i-(k+1))+1:=by omega
    rw[this];rfl
  ·simp only[List.zipIdx_cons,List.map_cons,fY]
   rw[if_neg (Ne.symm (hn k (Nat.le_refl _) (by simp)))]
   exact ih2 λi h1 h2=>hn i (by omega) (by simp;omega)
theorem gO{l:List Blk}{i:Nat}{x:Blk}:bS (l.map some) i=some x↔l[i]?=some x:=by
 simp[bS,Option.join_eq_some_iff]
theorem cE{l:List (Option Blk)}{i:Nat}{x:Blk}:bS l i=some x↔l[i]?=some (some x):=by
 simp[bS,Option.join_eq_some_iff]
theorem bE.hand{P:Program}{n:Nat}{fid:FuncId}{args:List AV}{f:Nat}{hp:Hp}{r:AV}{h:List Blk}{h':List (Option Blk)}(hf:vD P fid)(hs:bl P fid args h r h')(bs:List Nat)
  (hl:bs.length=h.length) (hnd:bs.Nodup) (hargs:fZ h.length args) (hblk:∀(i:Nat) (b:Nat) (x:Blk),bs[i]?=some b→h[i]?=some x→x.bel h.length∧hp b=some (x.ren (bi bs f)))
  (hk:h.length≤h'.length) (hk':h'.length≤h.length+16) (hr:r.bel h'.length) (hb':∀x,some x∈h'→x.bel h'.length) :
  bE P n fid (d6 (bi bs f) args) f hp bs (r.ren (bi bs f)) (eO bs f h'):=by
 refine⟨hf,?_⟩
 intro c A μ fr tm' hp' a w cargs H h1 hfr h3
 -- the callee's heads
 have hbs:∀i,i<h.length→∃b x hd,bs[i]?=some b∧h[i]?=some x∧bi bs f i=b∧hp' b=some (x.ren (bi bs f))∧μ b=some hd∧x.bel h.length:=by
  intro i hi
  have hib:i<bs.length:=by omega
  have e1:bs[i]?=some bs[i]:=List.getElem?_eq_getElem hib
  have e2:h[i]?=some h[i]:=List.getElem?_eq_getElem hi
  obtain⟨e3,e4⟩:=hblk i _ _ e1 e2
  have e5:hp' bs[i]=some (h[i].ren (bi bs f)):=(h1 _ (List.getElem_mem hib)).trans e4
  obtain⟨hd,e6,_⟩:=H.blk _ _ e5
  refine⟨bs[i],h[i],hd,e1,e2,?_,e5,e6,e3⟩
  unfold bi;rw[if_pos hib];simp[List.getD,e1]
 let μc:Mu:=λi=>if i<h.length then μ (bi bs f i)else none
 have hμc:∀i,i<h.length→μc i=μ (bi bs f i):=λi hi=>by simp[μc,hi]
 have hun:∀b,b<h.length→∀hd,μ (bi bs f b)=some hd→μc b=some hd:=λb hb hd e=>by rw[hμc b hb];exact e
 have hpi:∀i j,i<h.length→j<h.length→bi bs f i=bi bs f j→i=j:=by
  intro i j hi hj e
  unfold bi at e
  rw[if_pos (by omega),if_pos (by omega)]at e
  have e1:bs[i]?=bs[j]?:=by
   rw[List.getElem?_eq_getElem (show i<bs.length by omega),List.getElem?_eq_getElem (show j<bs.length by omega)]at *
   simpa[List.getD,List.getElem?_eq_getElem (show i<bs.length by omega),List.getElem?_eq_getElem (show j<bs.length by omega)]using e
  exact(List.getElem?_inj (show i<bs.length by omega) hnd).1 e1
 have hHeap:qe P w A μc (bS (h.map some)):=by
  refine⟨λb x hx=>?_,λb b' x x' hd hd' hx hx' hm hm' he he' heq=>?_,H.lt⟩
  ·have hx:=gO.1 hx
   have hb:b<h.length:=(List.getElem?_eq_some_iff.1 hx).1
   obtain⟨b0,x0,hd,e1,e2,e3,e4,e5,e6⟩:=hbs b hb
   rw[hx]at e2;cases e2
   obtain⟨hd',g1,g2,g3⟩:=H.blk _ _ e4
   rw[e5]at g1;cases g1
   exact⟨hd,by rw[hμc b hb,e3];exact e5,g2.unren hun e6,λhe=>⟨(g3 he).1,(g3 he).2.1⟩⟩
  ·have hx:=gO.1 hx
   have hx':=gO.1 hx'
   have hb:b<h.length:=(List.getElem?_eq_some_iff.1 hx).1
   have hb1:b'<h.length:=(List.getElem?_eq_some_iff.1 hx').1
   obtain⟨b0,x0,hd0,e1,e2,e3,e4,e5,e6⟩:=hbs b hb
   obtain⟨b1,x1,hd1,f1,f2,f3,f4,f5,f6⟩:=hbs b' hb1
   rw[hμc b hb]at hm;rw[hμc b' hb1]at hm'
   rw[←e3]at e4;rw[←f3]at f4
   exact hpi b b' hb hb1 (H.inj _ _ _ _ hd hd' e4 f4 hm hm' he he' heq)
 have hown:∀k,dP μc (bS (h.map some)) k→∃b x hd,b∈bs∧hp' b=some x∧μ b=some hd∧hd.emp=none∧hd.blk=k:=by
  rintro k ⟨i,x,hd,hx,hm,he,hk⟩
  have hx:=gO.1 hx
  have hi:i<h.length:=(List.getElem?_eq_some_iff.1 hx).1
  obtain⟨b0,x0,hd0,e1,e2,e3,e4,e5,e6⟩:=hbs i hi
  rw[hμc i hi,e3]at hm
  exact⟨b0,_,hd,List.mem_of_getElem? e1,e4,hm,he,hk⟩
 refine(hs w A μc cargs hHeap (λb hb=>by simp[μc];omega) (RVL.unren hun hargs h3)).mono ?_
 rintro e w' ⟨v,A',μ',rfl,r1,r2,r3,r4,r5,r6,r7⟩
 let μ2:Mu:=λb=>if f≤b∧b<f+16 then μ' (h.length+(b-f))else μ b
 have hfree:∀b,f≤b→b<f+16→μ b=none∧hp' b=none:=by
  intro b hb1 hb2
  have:=hfr (b-f) (by omega)
  rw[show f+(b-f)=b by omega]at this
  exact H.fr b this
 have hμ2:bv μ μ2:=by
  intro b hd hb
  simp only[μ2]
  split
  ·rename_i hc;rw[(hfree b hc.1 hc.2).1]at hb;cases hb
  ·exact hb
 have hren:∀b,b<h'.length→∀hd,μ' b=some hd→μ2 (bi bs f b)=some hd:=by
  intro b hb hd e
  by_cases hbk:b<h.length
  ·obtain⟨b0,x0,hd0,e1,e2,e3,e4,e5,e6⟩:=hbs b hbk
   have:μ' b=some hd0:=r3 b hd0 (by rw[hμc b hbk,e3];exact e5)
   rw[this]at e;cases e
   rw[e3];exact hμ2 _ _ e5
  ·have e1:bi bs f b=f+(b-h.length):=by unfold bi;rw[if_neg (by omega),hl]
   rw[e1]
   simp only[μ2]
   rw[if_pos (by omega)]
   have:h.length+(f+(b-h.length)-f)=b:=by omega
   rw[this];exact e
 have hSame:dc A w w':=by
  intro b hb
  refine r4.block b (H.lt b hb) λho=>?_
  obtain⟨b0,x,hd,_,g1,g2,g3,g4⟩:=hown b ho
  obtain⟨hd',g5,_,g6⟩:=H.blk _ _ g1
  rw[g2]at g5;cases g5
  exact(g6 g3).1 (g4 ▸ hb)
 have hpi2:∀i j,i<h'.length→j<h'.length→bi bs f i=bi bs f j→i=j:=by
  intro i j hi hj e
  by_cases hik:i<h.length
  ·by_cases hjk:j<h.length
   ·exact hpi i j hik hjk e
   ·exfalso
    obtain⟨b0,x0,hd0,e1,e2,e3,e4,e5,e6⟩:=hbs i hik
    have e1:bi bs f j=f+(j-h.length):=by unfold bi;rw[if_neg (by omega),hl]
    rw[e3,e1]at e
    have:=(hfree b0 (by omega) (by omega)).1
    rw[this]at e5;cases e5
  ·by_cases hjk:j<h.length
   ·exfalso
    obtain⟨b0,x0,hd0,e1,e2,e3,e4,e5,e6⟩:=hbs j hjk
    have e1:bi bs f i=f+(i-h.length):=by unfold bi;rw[if_neg (by omega),hl]
    rw[e3,e1]at e
    have:=(hfree b0 (by omega) (by omega)).1
    rw[this]at e5;cases e5
   ·unfold bi at e
    rw[if_neg (by omega),if_neg (by omega)]at e
    omega
 have heff:∀b,(∃i,i<h'.length∧bi bs f i=b∧eO bs f h' b=some ((h'.getD i none).map (Blk.ren (bi bs f))))∨((∀i,i<h'.length→bi bs f i≠b)∧eO bs f h' b=none):=by
  intro b
  obtain⟨s1,s2⟩:=rL bs f (λx=>x.map (Blk.ren (bi bs f))) h' 0 b (λi j _ h2 _ h4=>hpi2 i j (by omega) (by omega))
  by_cases hex:∃i,i<h'.length∧bi bs f i=b
  ·obtain⟨i,hi,hb⟩:=hex
   exact .inl ⟨i,hi,hb,by simpa[eO]using s1 i (by omega) (by omega) hb⟩
  ·have hn:∀i,i<h'.length→bi bs f i≠b:=λi hi hb=>hex ⟨i,hi,hb⟩
   exact .inr ⟨hn,by simpa[eO]using s2 λi _ hi=>hn i (by omega)⟩
 have hblk2:∀b x,c8 (eO bs f h') hp' b=some x→(∃i y,i<h'.length∧bi bs f i=b∧h'[i]?=some (some y)∧x=y.ren (bi bs f))∨((∀i,i<h'.length→bi bs f i≠b)∧hp' b=some x):=by
  intro b x hx
  rcases heff b with⟨i,hi,hb,he⟩|⟨hn,he⟩
  ·left
   simp only[c8,he]at hx
   cases hy:h'.getD i none with
   | none=>rw[hy]at hx;simp at hx
   | some y =>
    rw[hy]at hx;simp at hx
    refine⟨i,y,hi,hb,?_,hx.symm⟩
    have:h'[i]?=some h'[i]:=List.getElem?_eq_getElem hi
    simp[List.getD,this]at hy
    rw[this,hy]
  ·right
   simp only[c8,he]at hx
   exact⟨hn,hx⟩
 have hold:∀b x hd,(∀i,i<h'.length→bi bs f i≠b)→hp' b=some x→μ b=some hd→hd.emp=none→w'.heap[hd.blk]?=w.heap[hd.blk]?∧¬dP μc (bS (h.map some)) hd.blk:=by
  intro b x hd hn hx hm he
  obtain⟨hd',g5,_,g6⟩:=H.blk _ _ hx
  rw[hm]at g5;cases g5
  have hno:¬dP μc (bS (h.map some)) hd.blk:=by
   intro ho
   obtain⟨b0,x0,hd0,k1,k2,k3,k4,k5⟩:=hown _ ho
   have:=H.inj _ _ _ _ _ _ k2 hx k3 hm k4 he k5
   subst this
   obtain⟨i,hi⟩:=List.mem_iff_getElem?.1 k1
   have hib:i<bs.length:=(List.getElem?_eq_some_iff.1 hi).1
   refine hn i (by omega) ?_
   unfold bi;rw[if_pos hib];simp[List.getD,hi]
  exact⟨r4.block _ (g6 he).2.1 hno,hno⟩
 refine⟨v,A',μ2,rfl,?_,RV.doren hren hr r1⟩
 refine⟨λt=>(H.tm t).mono hSame r5 _ hμ2,H.n,H.df,?_,?_,r2.lt,?_,?_,λb hb=>r5 b (H.A0 b hb),?_,H.mu.trans hμ2⟩
 ·intro b x hx
  rcases hblk2 b x hx with⟨i,y,hi,hb,hy,rfl⟩|⟨hn,hx⟩
  ·obtain⟨hd,g1,g2,g3⟩:=r2.blk i y (cE.2 hy)
   refine⟨hd,by rw[←hb];exact hren i hi hd g1,g2.doren hren (hb' y (List.mem_of_getElem? hy)),λhe=>⟨(g3 he).1,(g3 he).2,?_⟩⟩
   rcases r7 hd.blk ⟨i,y,hd,cE.2 hy,g1,he,rfl⟩with ho|ho
   ·obtain⟨b0,x0,hd0,k1,k2,k3,k4,k5⟩:=hown _ ho
    obtain⟨hd',q5,_,q6⟩:=H.blk _ _ k2
    rw[k3]at q5;cases q5
    rw[←k5];exact(q6 k4).2.2
   ·exact .inr (Nat.le_trans H.keep.size ho)
  ·obtain⟨hd,g1,g2,g3⟩:=H.blk b x hx
   refine⟨hd,hμ2 _ _ g1,g2.mono hSame r5 hμ2 (λhe=>(hold b x hd hn hx g1 he).1),λhe=>⟨λhA'=>?_,Nat.lt_of_lt_of_le (g3 he).2.1 r4.size,(g3 he).2.2⟩⟩
   rcases r6 _ hA' with hq|hq|hq
   ·exact(g3 he).1 hq
   ·exact(hold b x hd hn hx g1 he).2 hq
   ·have:=(g3 he).2.1;omega
 ·intro b b' x x' hd hd' hx hx' hm hm' he he' heq
  rcases hblk2 b x hx with⟨i,y,hi,hb,hy,rfl⟩|⟨hn,hx1⟩
  ·obtain⟨hd1,g1,g2,g3⟩:=r2.blk i y (cE.2 hy)
   have e1:=hren i hi hd1 g1
   rw[hb,hm]at e1;cases e1
   rcases hblk2 b' x' hx' with⟨i',y',hi',hb1,hy',rfl⟩|⟨hn',hx1'⟩
   ·obtain⟨hd2,k1,k2,k3⟩:=r2.blk i' y' (cE.2 hy')
    have e2:=hren i' hi' hd2 k1
    rw[hb1,hm']at e2;cases e2
    have:=r2.inj i i' y y' _ _ (cE.2 hy) (cE.2 hy') g1 k1 he he' heq
    subst this
    rw[←hb,←hb1]
   ·exfalso
    obtain⟨hd2,k1,k2,k3⟩:=H.blk b' x' hx1'
    have:=hμ2 _ _ k1
    rw[hm']at this;cases this
    rcases r7 hd.blk ⟨i,y,hd,cE.2 hy,g1,he,rfl⟩with ho|ho
    ·exact(hold b' x' _ hn' hx1' k1 he').2 (heq ▸ ho)
    ·have:=(k3 he').2.1;omega
  ·obtain⟨hd1,g1,g2,g3⟩:=H.blk b x hx1
   have e1:=hμ2 _ _ g1
   rw[hm]at e1;cases e1
   rcases hblk2 b' x' hx' with⟨i',y',hi',hb1,hy',rfl⟩|⟨hn',hx1'⟩
   ·exfalso
    obtain⟨hd2,k1,k2,k3⟩:=r2.blk i' y' (cE.2 hy')
    have e2:=hren i' hi' hd2 k1
    rw[hb1,hm']at e2;cases e2
    rcases r7 _ ⟨i',y',_,cE.2 hy',k1,he',rfl⟩with ho|ho
    ·exact(hold b x _ hn hx1 g1 he).2 (heq ▸ ho)
    ·have:=(g3 he).2.1;omega
   ·obtain⟨hd2,k1,k2,k3⟩:=H.blk b' x' hx1'
    have e2:=hμ2 _ _ k1
    rw[hm']at e2;cases e2
    exact H.inj _ _ _ _ _ _ hx1 hx1' g1 k1 he he' heq
 ·rintro b ⟨hb1,hb2⟩
  obtain⟨q1,q2⟩:=H.fr b hb1
  refine⟨by simp only[μ2];rw[if_neg hb2];exact q1,?_⟩
  cases hx:c8 (eO bs f h') hp' b with
  | none=>rfl
  | some x =>
   rcases hblk2 b x hx with⟨i,y,hi,hb,hy,rfl⟩|⟨hn,hx1⟩
   ·exfalso
    by_cases hik:i<h.length
    ·obtain⟨b0,x0,hd0,e1,e2,e3,e4,e5,e6⟩:=hbs i hik
     rw[←e3,hb,q1]at e5;cases e5
    ·have e1:bi bs f i=f+(i-h.length):=by unfold bi;rw[if_neg (by omega),hl]
     rw[e1]at hb;omega
   ·rw[q2]at hx1;cases hx1
 ·refine⟨r4.os.trans H.keep.os,r4.tape.trans H.keep.tape,r4.output.trans H.keep.output,Nat.le_trans H.keep.size r4.size,λk hk hno=>?_⟩
  rw[←H.keep.block k hk hno]
  refine r4.block k (Nat.lt_of_lt_of_le hk H.keep.size) λho=>?_
  obtain⟨b0,x0,hd0,k1,k2,k3,k4,k5⟩:=hown _ ho
  obtain⟨hd',q5,_,q6⟩:=H.blk _ _ k2
  rw[k3]at q5;cases q5
  rcases(q6 k4).2.2 with g|g
  ·exact hno (k5 ▸ g)
  ·omega
 ·intro b hb
  rcases r6 b hb with hq|hq|hq
  ·exact H.A1 b hq
  ·obtain⟨b0,x0,hd0,k1,k2,k3,k4,k5⟩:=hown _ hq
   obtain⟨hd',q5,_,q6⟩:=H.blk _ _ k2
   rw[k3]at q5;cases q5
   rw[←k5]
   exact .inr (q6 k4).2.2
  ·exact .inr (.inr (Nat.le_trans H.keep.size hq))
end Go.Am
namespace Go.Am
def fN(ops:Array Oper):Option (Nat×Bool)→Option (Option (Nat×Bool))
 | none=>some none
 | some (j,want)=>match (ops[j]?).bind (·.dst)with
  | some d=>some (some (d,want))
  | none=>none
def Np(n:Nat):Option Nat→Bool
 | none=>true
 | some d=>decide (d<n)
def fM(P:Program)(n:Nat)(ops:Array Oper)(o:Oper):aO:=
  match fN ops o.guard with
  | some g=>if Np n o.dst then { dst:=o.dst,op:=cOp P o.op o.type,guard:=g } else { dst:=none,op:=.bad,guard:=none }
  | none=>{ dst:=none,op:=.bad,guard:=none }
structure S2 where
  tm:Nat→AV
  hp:Hp
def exT(P:Program)(n:Nat)(o:aO)(f:Nat)(s:S2)(K:S2→Prop):Prop:=
 match o.op with
 | .call g xs=>∃fid caps foot v e,evO s.tm g=.func fid caps∧(bE P n fid (xs.map (evO s.tm)++caps) f s.hp foot v e∨(OG P n fid (xs.map (evO s.tm)++caps) s.hp foot v∧e=dq))∧K ⟨aY o.dst v s.tm,c8 e s.hp⟩
 | .lit k N z ps=>((evA (.lit k N z ps) f (evO s.tm) s.hp).c∧K ⟨aY o.dst (evA (.lit k N z ps) f (evO s.tm) s.hp).v s.tm,s.hp⟩)∨((evL k N z ps f (evO s.tm)).c∧K ⟨aY o.dst (evL k N z ps f (evO s.tm)).v s.tm,bD (evL k N z ps f (evO s.tm)) s.hp⟩)
 | .isNil ptr ne x=>kz ptr (evO s.tm x)∧∀t,tI s.hp (evO s.tm x) t→K ⟨aY o.dst (.bool (t != ne)) s.tm,s.hp⟩
 | op=>(evA op f (evO s.tm) s.hp).c∧K ⟨aY o.dst (evA op f (evO s.tm) s.hp).v s.tm,bD (evA op f (evO s.tm) s.hp) s.hp⟩
def gv:AV→Option (Option Bool)
 | .val (.bool t)=>some (some t)
 | .tup []=>some none
 | _=>none
def evT(P:Program)(n:Nat):List aO→Nat→S2→(S2→Nat→Prop)→Prop
 | [],f,s,K=>K s f
 | o::os,f,s,K=>match o.guard with
  | none=>exT P n o f s λs'=>evT P n os (f+16) s' K
  | some (d,want)=>∃t,gv (s.tm d)=some t∧(t=some want→exT P n o f s λs'=>evT P n os (f+16) s' K)∧(¬t=some want→evT P n os (f+16) ⟨aY o.dst (.tup []) s.tm,s.hp⟩ K)
theorem Nb{P:Program}{n:Nat}{o:Oper}{f:Nat}{s:S2}{K:S2→Prop}(hd:∀d,o.dst=some d→d<n){g:Option (Nat×Bool)}(h:exT P n { dst:=o.dst,op:=cOp P o.op o.type,guard:=g } f s K) :
    (∃rd v e,jg P n o f s.tm s.hp rd v e∧K ⟨aY o.dst v s.tm,c8 e s.hp⟩) ∨
      ∃ptr ne x,cOp P o.op o.type=.isNil ptr ne x∧kz ptr (evO s.tm x)∧∀t,tI s.hp (evO s.tm x) t→K ⟨aY o.dst (.bool (t != ne)) s.tm,s.hp⟩:=by
  unfold exT at h
  simp only at h
  split at h
  · rename_i gg xs hop
    obtain⟨fid,caps,foot,v,e,h1,h2,h3⟩:=h
    rcases h2 with h2|⟨h2,rfl⟩
    · exact .inl ⟨foot,v,e,wc hop hd h1 h2,h3⟩
    · exact .inl ⟨foot,v,dq,DS hop hd h1 h2,h3⟩
  · rename_i k N z ps hop
    rcases h with⟨h1,h2⟩|⟨h1,h2⟩
    · exact .inl ⟨_,_,_,DT hd (by rw[hop];exact h1),by rw[dZ,hop];exact h2⟩
    · exact .inl ⟨_,_,_,Ti hop hd h1,by rw[dZ];exact h2⟩
  · rename_i ptr ne x hop
    exact .inr ⟨ptr,ne,x,hop,h⟩
  · rename_i op hop
    obtain⟨h1,h2⟩:=h
    exact .inl ⟨_,_,_,DT hd h1,by rw[dZ];exact h2⟩
theorem BS{ops:Array Oper}{a:Act}{j d:Nat}{t want:Bool}(hj:(ops[j]?).bind (·.dst)=some d)(hv:a.tmps.getD d undef=.bool t):yielded ops a.tmps j=some t:=by
 have hlt:d<a.tmps.size:=by
  rcases Nat.lt_or_ge d a.tmps.size with h|h
  ·exact h
  ·simp[Array.getD,show ¬d<a.tmps.size by omega,undef]at hv
 unfold yielded
 rw[hj]
 have:a.tmps[d]?=some (.bool t):=by
  rw[Array.getElem?_eq_getElem hlt]
  have:a.tmps.getD d undef=a.tmps[d]:=by unfold Array.getD;rw[dif_pos hlt];rfl
  rw[←this,hv]
 simp[this]
theorem yb{ops:Array Oper}{a:Act}{j d:Nat}{t:Option Bool}{w:World}{A:Nat→Prop}{μ:Mu}{x:AV}(hj:(ops[j]?).bind (·.dst)=some d)(hv:RV w A x μ (a.tmps.getD d undef))(hg:gv x=some t):yielded ops a.tmps j=t:=by
 unfold gv at hg
 split at hg
 ·cases hg
  exact BS (want:=true) hj hv.1
 ·cases hg
  obtain⟨vs,h1,h2⟩:=hv
  simp only[RVL]at h2
  subst h2
  unfold yielded
  rw[hj]
  simp only[Option.bind_some]
  rcases Nat.lt_or_ge d a.tmps.size with hlt|hge
  ·rw[Array.getElem?_eq_getElem hlt]
   have:a.tmps.getD d undef=a.tmps[d]:=by unfold Array.getD;rw[dif_pos hlt];rfl
   rw[←this,h1]
  ·rw[Array.getElem?_eq_none hge]
 ·cases hg
def gn:aO:={ dst:=none,op:=.bad,guard:=none }
theorem mw(P:Program)(n:Nat)(ops:Array Oper)(o:Oper):fM P n ops o=gn ∨
    ∃g,fN ops o.guard=some g∧(∀d,o.dst=some d→d<n)∧fM P n ops o={ dst:=o.dst,op:=cOp P o.op o.type,guard:=g }:=by
  unfold fM
  cases hg:fN ops o.guard with
  | none=>exact .inl rfl
  | some g =>
    by_cases hd:Np n o.dst=true
    · refine .inr ⟨g,rfl,?_,by simp only[hd,↓reduceIte]⟩
      intro d h;rw[h]at hd;simpa[Np]using hd
    · left;simp only[hd];rfl
theorem rK{P:Program}{n:Nat}{ops:Array Oper}{Q:Exit→Act→World→Prop}{c:Ctx}(K:S2→Nat→Prop)
    (hK:∀s f a w A μ,K s f→aI P c A μ (λb=>f≤b) s.tm s.hp n a w→Q .normal a w) :
    ∀(l:List Oper) (f:Nat) (s:S2) (a:Act) (w:World) (A:Nat→Prop) (μ:Mu),evT P n (l.map (fM P n ops)) f s K→aI P c A μ (λb=>f≤b) s.tm s.hp n a w→wpList P ops Q l a w
  | [],f,s,a,w,A,μ,h,H=>hK s f a w A μ h H
  | o::l,f,s,a,w,A,μ,h,H=>by
    have next:∀(tm':Nat→AV) (hp':Hp) a' w' A' μ',evT P n (l.map (fM P n ops)) (f+16) ⟨tm',hp'⟩ K→aI P c A' μ' (λb=>f≤b∧¬(f≤b∧b<f+16)) tm' hp' n a' w'→wpList P ops Q l a' w':=by
      intro tm' hp' a' w' A' μ' h1 h2
      exact rK K hK l (f+16) ⟨tm',hp'⟩ a' w' A' μ' h1 (h2.free λb hb=>⟨by omega,λh=>by omega⟩)
    have run:∀g,(∀d,o.dst=some d→d<n)→exT P n { dst:=o.dst,op:=cOp P o.op o.type,guard:=g } f s (λs'=>evT P n (l.map (fM P n ops)) (f+16) s' K)→o.wp P a w (wpList P ops Q l) Q:=by
      intro g hd hx
      rcases Nb hd hx with⟨rd,v,e,h1,h2⟩|⟨ptr,ne,x,h1,h2,h3⟩
      · exact h1 c A μ (λb=>f≤b) s.tm s.hp a w (wpList P ops Q l) Q H (λ_ _=>rfl) (λ_ _=>rfl) (λj _=>by omega) (λa' w' A' μ' hr=>next _ _ a' w' A' μ' h2 hr)
      · exact Pu h1 hd h2 H (λt ht a' hr=>next _ _ a' w A μ (h3 t ht) (hr.free λb hb=>hb.1))
    rw[List.map_cons]at h
    rcases mw P n ops o with hb|⟨g,hg,hd,hb⟩
    · rw[hb]at h
      simp only[evT,gn,exT,evA,Out.bad]at h
      exact h.1.elim
    rw[hb]at h
    simp only[evT]at h
    unfold wpList
    cases hgd:o.guard with
    | none =>
      rw[hgd]at hg;simp[fN]at hg;subst hg
      rw[if_pos (by simp[Region.wanted,hgd])]
      exact .inl (run none hd h)
    | some jw =>
      obtain⟨j,want⟩:=jw
      rw[hgd]at hg
      simp only[fN]at hg
      split at hg
      case h_2=>cases hg
      rename_i d hj
      cases hg
      obtain⟨t,h1,h2,h3⟩:=h
      have hy:=yb hj (H.tm d) h1
      by_cases ht:t=some want
      · rw[if_pos (by simp[Region.wanted,hgd,hy,ht])]
        exact .inl (run _ hd (h2 ht))
      · rw[if_neg (by simp[Region.wanted,hgd,hy,ht])]
        exact next _ _ _ _ A μ (h3 ht) ((H.put (v:=.tup []) (cv:=undef) o.dst hd ⟨[],rfl,rfl⟩).free λb hb=>hb.1)
def cj:AOp→Bool
 | .load _ _ _|.store _ _ _|.convBS _|.slice _ _ _ _ _|.iaddr _ _ _|.len _|.append _ _ _ _|.appendS _ _ _|.box _|.mks _ _ _ _ _|.call _ _|.cap _|.appendZ _ _ _ _ _|.copy _ _ _|.clear _ _ _|.isNil _ _ _|.lit _ _ _ _|.mkm _|.mset _ _ _ _|.mget _ _ _ _ _|.mlen _|.mdel _ _ _=>true
 | _=>false
theorem yx{op:AOp}(h:cj op=false){f:Nat}{ρ:AO→AV}{hp hp':Hp}:evA op f ρ hp=evA op f ρ hp'∧(evA op f ρ hp).rm=none∧(evA op f ρ hp).ad=none:=by
 cases op<;>simp[cj]at h
 all_goals first
  | exact⟨rfl,rfl,rfl⟩
  | exact⟨rfl,(f9 _ _ _).1,(f9 _ _ _).2⟩
  | exact⟨rfl,(iq _ _ _).1,(iq _ _ _).2⟩
  | exact⟨rfl,(kc _ _).1,(kc _ _).2⟩
  | exact⟨rfl,(eK _ _).1,(eK _ _).2⟩
  | (refine⟨rfl,?_⟩;simp only[evA];(repeat' split)<;>exact⟨rfl,rfl⟩)
def rdH(op:AOp)(tm:Nat→AV):List Nat:=if cj op then UF op tm else []
def wrH(o:Out):List Nat:=o.rm.toList++(o.ad.toList.map (·.1))
theorem JA{P:Program}{n:Nat}{o:Oper}{f:Nat}{tm:Nat→AV}{hp:Hp}(hd:∀d,o.dst=some d→d<n)(hc:(evA (cOp P o.op o.type) f (evO tm) hp).c) :
  jg P n o f tm hp (rdH (cOp P o.op o.type) tm) (evA (cOp P o.op o.type) f (evO tm) hp).v (gq (evA (cOp P o.op o.type) f (evO tm) hp)):=by
 unfold rdH
 split
 ·exact DT hd hc
 ·rename_i hh
  have hh:cj (cOp P o.op o.type)=false:=by simpa using hh
  intro c A μ fr tm' hp' a w K Q H h1 h2 h3 hK
  have e:=yx hh (f:=f) (ρ:=evO tm) (hp:=hp) (hp':=hp')
  rw[e.1]at hc hK
  refine DT hd hc c A μ fr tm' hp' a w K Q H h1 (λb hb=>rfl) h3 ?_
  intro a' w' A' μ' hr
  exact hK a' w' A' μ' hr
theorem vG{o:Out}{b:Nat}(h:gq o b≠none):b∈wrH o:=by
 unfold gq at h
 unfold wrH
 cases ha:o.ad with
 | none =>
  rw[ha]at h
  simp only at h
  split at h
  ·rename_i e;simp[e]
  ·exact absurd rfl h
 | some p =>
  obtain⟨f,x⟩:=p
  rw[ha]at h
  simp only at h
  split at h
  ·rename_i e;simp[e]
  ·split at h
   ·rename_i e;simp[e]
   ·exact absurd rfl h
abbrev Log:=List (List Nat×List Nat)
def exD(P:Program)(n:Nat)(o:aO)(f:Nat)(s:S2)(K:S2→List Nat×List Nat→Prop):Prop:=
 match o.op with
 | .lit k N z ps=>((evA (.lit k N z ps) f (evO s.tm) s.hp).c∧K ⟨aY o.dst (evA (.lit k N z ps) f (evO s.tm) s.hp).v s.tm,s.hp⟩ (rdH (.lit k N z ps) s.tm,[]))∨((evL k N z ps f (evO s.tm)).c∧K ⟨aY o.dst (evL k N z ps f (evO s.tm)).v s.tm,bD (evL k N z ps f (evO s.tm)) s.hp⟩ ([],[f]))
 | .call g xs=>∃fid caps foot v e wr,evO s.tm g=.func fid caps∧(bE P n fid (xs.map (evO s.tm)++caps) f s.hp foot v e∨(OG P n fid (xs.map (evO s.tm)++caps) s.hp foot v∧e=dq))∧(∀b,e b≠none→b∈wr)∧K ⟨aY o.dst v s.tm,c8 e s.hp⟩ (foot,wr)
 | op=>(evA op f (evO s.tm) s.hp).c∧K ⟨aY o.dst (evA op f (evO s.tm) s.hp).v s.tm,bD (evA op f (evO s.tm) s.hp) s.hp⟩ (rdH op s.tm,wrH (evA op f (evO s.tm) s.hp))
def evD(P:Program)(n:Nat):List aO→Nat→S2→Log→(S2→Nat→Log→Prop)→Prop
 | [],f,s,lg,K=>K s f lg
 | o::os,f,s,lg,K=>match o.guard with
  | none=>exD P n o f s λs' l=>evD P n os (f+16) s' (lg++[l]) K
  | some (d,want)=>∃t,gv (s.tm d)=some t∧(t=some want→exD P n o f s λs' l=>evD P n os (f+16) s' (lg++[l]) K)∧(¬t=some want→evD P n os (f+16) ⟨aY o.dst (.tup []) s.tm,s.hp⟩ (lg++[([],[])]) K)
def Sb(xs ys:List Nat):Bool:=xs.all λx=>!ys.contains x
def EE(par:List (Nat×Nat))(lg:Log):Bool:=par.all λp =>
 Sb (lg.getD p.1 ([],[])).2 ((lg.getD p.2 ([],[])).1++(lg.getD p.2 ([],[])).2) && Sb (lg.getD p.2 ([],[])).2 (lg.getD p.1 ([],[])).1
def dG{β:Type}(f0:Nat→β)(g:Nat→Nat→Option β)(D:Nat→Bool):Nat→Nat→β
 | 0,x=>f0 x
 | k+1,x=>if D k then(g k x).getD (dG f0 g D k x)else dG f0 g D k x
theorem j0{β:Type}{f0:Nat→β}{g:Nat→Nat→Option β}{D D':Nat→Bool}{x:Nat}:∀{k:Nat},(∀j,j<k→g j x≠none→D j=D' j)→dG f0 g D k x=dG f0 g D' k x
 | 0,_=>rfl
 | k+1,h=>by
  have ih:=j0 (f0:=f0) (g:=g) (D:=D) (D':=D') (x:=x) (k:=k) λj hj=>h j (by omega)
  simp only[dG,ih]
  cases hg:g k x with
  | none=>simp
  | some v=>rw[h k (by omega) (by rw[hg];simp)]
theorem fA{β:Type}{f0:Nat→β}{g:Nat→Nat→Option β}{D:Nat→Bool}{x i:Nat}:∀{k:Nat},i≤k→(∀j,i≤j→j<k→g j x≠none→D j=false)→dG f0 g D k x=dG f0 g D i x
  | 0, h, _ => by have : i = 0 := by omega
                  subst this;rfl
  | k+1,h,hD=>by
    by_cases hi:i=k+1
    · subst hi;rfl
    · rw[←fA (k:=k) (by omega) λj h1 h2=>hD j h1 (by omega)]
      simp only[dG]
      cases hg:g k x with
      | none=>simp
      | some v=>rw[hD k (by omega) (by omega) (by rw[hg];simp)];simp
structure Dat where
  go:Bool
  v:AV
  e:Eff
  rd:List Nat
  wr:List Nat
  deriving Inhabited
section
variable (dsts : Nat → Option Nat) (ds : Nat → Dat) (s0 : S2)
def gT(i t:Nat):Option AV:=if dsts i=some t then some (ds i).v else none
def gH(i b:Nat):Option (Option Blk):=(ds i).e b
def stP(D:Nat→Bool)(k:Nat):S2:=⟨dG s0.tm (gT dsts ds) D k,dG s0.hp (gH ds) D k⟩
end
theorem JB(dsts:Nat→Option Nat)(ds:Nat→Dat)(s0:S2)(D:Nat→Bool)(k:Nat)(h:D k=true) :
  stP dsts ds s0 D (k+1)=⟨aY (dsts k) (ds k).v (stP dsts ds s0 D k).tm,c8 (ds k).e (stP dsts ds s0 D k).hp⟩:=by
 unfold stP
 congr 1
 ·funext x
  simp only[dG,h,↓reduceIte,gT]
  cases hd:dsts k with
  | none=>simp[aY]
  | some d =>
   by_cases e:d=x
   ·subst e;simp[aY,upd]
   ·have:¬x=d:=λh=>e h.symm
    simp[aY,upd,e,this]
 ·funext x
  simp only[dG,h,↓reduceIte,gH,c8]
  cases (ds k).e x<;>rfl
end Go.Am
namespace Go.Am
def jV(o:Oper):List Nat:=(o.after.toList.filter (Region.binds .any)).map (·.on)
def yW(acc:List Nat)(es:List Nat):Nat:=es.foldl (λm e=>m ||| (1 <<< e) ||| acc.getD e 0) 0
def ec:List (List Nat)→List Nat→List Nat
 | [],acc=>acc
 | es::E,acc=>ec E (acc++[yW acc es])
def jp(o:aO):List Nat:=(o.op.opers.filterMap fun|.t t=>some t|.c _=>none)++(match o.guard with|some (d,_)=>[d]|none=>[])
def gD(x y:aO):Bool:=
 (match x.dst with|some d=>!(jp y).contains d && y.dst != some d|none=>true) && (match y.dst with|some d=>!(jp x).contains d|none=>true)
def gm(cl:List Nat)(j i:Nat):Bool:=(cl.getD i 0).testBit j
def wL(E:List (List Nat))(cl:List Nat)(xs:List aO):Bool:=
 (E.zipIdx.all λ(es,i)=>es.all λe=>decide (e<i)) &&
 (List.range xs.length).all λi=>(List.range i).all λj=>gm cl j i || gD (xs.getD j gn) (xs.getD i gn)
def wT(cl:List Nat)(xs:List aO):List (Nat×Nat):=
 (List.range xs.length).flatMap λi=>(List.range i).filterMap λj =>
  if !gm cl j i && cj (xs.getD j gn).op && cj (xs.getD i gn).op then some (j,i)else none
theorem j9(acc:List Nat)(j:Nat):∀(es:List Nat) (m:Nat),(es.foldl (λm e=>m ||| (1 <<< e) ||| acc.getD e 0) m).testBit j=true →
  m.testBit j=true∨∃e∈es,j=e∨(acc.getD e 0).testBit j=true
 | [],m,h=>.inl h
 | e::es,m,h=>by
  rcases j9 acc j es _ h with h|⟨e',h1,h2⟩
  ·simp only[Nat.testBit_or,Bool.or_eq_true]at h
   rcases h with(h|h)|h
   ·exact .inl h
   ·refine .inr ⟨e,by simp,.inl ?_⟩
    rw[Nat.one_shiftLeft,Nat.testBit_two_pow]at h
    simpa using(of_decide_eq_true h).symm
   ·exact .inr ⟨e,by simp,.inr h⟩
  ·exact .inr ⟨e',by simp[h1],h2⟩
theorem mo:∀(E:List (List Nat)) (acc:List Nat) (i:Nat),i<acc.length→(ec E acc).getD i 0=acc.getD i 0
 | [],acc,i,_=>rfl
 | es::E,acc,i,h=>by
  rw[ec,mo E _ i (by simp;omega)]
  simp[List.getD,List.getElem?_append_left h]
theorem FV:∀(E:List (List Nat)) (acc:List Nat) (k:Nat) (es:List Nat),E[k]?=some es →
  (ec E acc).getD (acc.length+k) 0=yW ((ec E acc).take (acc.length+k)) es
 | [],acc,k,es,h=>by simp at h
 | es0::E,acc,0,es,h=>by
  simp at h;subst h
  rw[ec,mo E _ _ (by simp)]
  have h1:(ec E (acc++[yW acc es0])).take (acc.length+0)=acc:=by
   have:∀(E:List (List Nat)) (b acc:List Nat),∃t,ec E (acc++b)=acc++t:=by
    intro E
    induction E with
    | nil=>intro b acc;exact⟨b,rfl⟩
    | cons e E ih=>intro b acc;rw[ec,List.append_assoc];exact ih _ _
   obtain⟨t,ht⟩:=this E [yW acc es0] acc
   rw[ht];simp
  rw[h1]
  simp[List.getD]
 | es0::E,acc,k+1,es,h=>by
  rw[ec]
  have:=FV E (acc++[yW acc es0]) k es (by simpa using h)
  simp only[List.length_append,List.length_cons,List.length_nil,Nat.zero_add]at this
  rw[show acc.length+(k+1)=acc.length+1+k by omega]
  exact this
theorem yP{E:List (List Nat)}{i j:Nat}{es:List Nat}(hE:E[i]?=some es)(h:gm (ec E []) j i=true):∃e∈es,j=e∨(e<i∧gm (ec E []) j e=true):=by
 have h1:=FV E [] i es hE
 simp only[List.length_nil,Nat.zero_add]at h1
 unfold gm at h
 rw[h1]at h
 rcases j9 _ j es 0 h with h|⟨e,he,h⟩
 ·simp at h
 ·rcases h with h|h
  ·exact⟨e,he,.inl h⟩
  ·refine⟨e,he,.inr ?_⟩
   by_cases hlt:e<i
   ·refine⟨hlt,?_⟩
    unfold gm
    have:((ec E []).take i).getD e 0=(ec E []).getD e 0:=by
     simp[List.getD,List.getElem?_take,hlt]
    rw[←this];exact h
   ·exfalso
    have:((ec E []).take i).getD e 0=0:=by
     simp[List.getD,List.getElem?_take,hlt]
    rw[this]at h;simp at h
theorem pB{E:List (List Nat)}{D:Nat→Bool}(hD:∀i es,E[i]?=some es→D i=true→∀e∈es,D e=true):∀(i j:Nat),i<E.length→gm (ec E []) j i=true→D i=true→D j=true:=by
 intro i
 induction i using Nat.strongRecOn with
 | _ i ih =>
  intro j hi h hDi
  have hE:E[i]?=some E[i]:=List.getElem?_eq_getElem hi
  obtain⟨e,he,h|⟨hlt,h⟩⟩:=yP hE h
  ·subst h;exact hD i _ hE hDi _ he
  ·exact ih e hlt j (by omega) h (hD i _ hE hDi e he)
def Good(P:Program)(n:Nat)(ops:Array Oper)(f0:Nat)(ds:Nat→Dat)(s0:S2)(i:Nat):Prop:=
  ∃o,ops[i]?=some o∧(∀d,o.dst=some d→d<n)∧(∃g,fM P n ops o={ dst:=o.dst,op:=cOp P o.op o.type,guard:=g }∧fN ops o.guard=some g) ∧
    (match o.guard with
      | none=>(ds i).go=true
      | some (j,want)=>∃d t,(ops[j]?).bind (·.dst)=some d∧gv ((stP (λi=>(ops[i]?).bind (·.dst)) ds s0 (λ_=>true) i).tm d)=some t∧(ds i).go=decide (t=some want)) ∧
    ((ds i).go=true→jg P n o (f0+16 * i) (stP (λi=>(ops[i]?).bind (·.dst)) ds s0 (λ_=>true) i).tm (stP (λi=>(ops[i]?).bind (·.dst)) ds s0 (λ_=>true) i).hp (ds i).rd (ds i).v (ds i).e) ∧
    ((ds i).go=false→(ds i).v=.tup []∧(ds i).e=dq∧(ds i).rd=[])∧(∀b,(ds i).e b≠none→b∈(ds i).wr) ∧
    (cj (cOp P o.op o.type)=false→(ds i).rd=[]∧(ds i).e=dq)
theorem lb{dsts:Nat→Option Nat}{ds ds':Nat→Dat}{s0:S2}{D:Nat→Bool}:∀{k:Nat},(∀i,i<k→ds i=ds' i)→stP dsts ds s0 D k=stP dsts ds' s0 D k:=by
 intro k h
 have h1:∀(k x:Nat),(∀i,i<k→ds i=ds' i)→dG s0.tm (gT dsts ds) D k x=dG s0.tm (gT dsts ds') D k x:=by
  intro k x
  induction k with
  | zero=>intro _;rfl
  | succ k ih=>intro h;simp only[dG,ih λi hi=>h i (by omega),gT,h k (by omega)]
 have h2:∀(k x:Nat),(∀i,i<k→ds i=ds' i)→dG s0.hp (gH ds) D k x=dG s0.hp (gH ds') D k x:=by
  intro k x
  induction k with
  | zero=>intro _;rfl
  | succ k ih=>intro h;simp only[dG,ih λi hi=>h i (by omega),gH,h k (by omega)]
 unfold stP
 rw[show dG s0.tm (gT dsts ds) D k=dG s0.tm (gT dsts ds') D k from funext λx=>h1 k x h,show dG s0.hp (gH ds) D k=dG s0.hp (gH ds') D k from funext λx=>h2 k x h]
theorem Good.congr{P:Program}{n:Nat}{ops:Array Oper}{f0:Nat}{ds ds':Nat→Dat}{s0:S2}{i:Nat}(h:∀j,j≤i→ds j=ds' j)(hg:Good P n ops f0 ds s0 i):Good P n ops f0 ds' s0 i:=by
 unfold Good at *
 rw[←lb (ds:=ds) (ds':=ds') (k:=i) λj hj=>h j (by omega),←h i (Nat.le_refl _)]
 exact hg
def gL(ds:Nat→Dat)(k:Nat):Log:=(List.range k).map λi=>((ds i).rd,(ds i).wr)
theorem Bs(ds:Nat→Dat)(k:Nat):gL ds (k+1)=gL ds k++[((ds k).rd,(ds k).wr)]:=by simp[gL,List.range_succ]
theorem xy{ds ds':Nat→Dat}{k:Nat}(h:∀i,i<k→ds i=ds' i):gL ds k=gL ds' k:=by
 unfold gL
 exact List.map_congr_left λi hi=>by rw[h i (List.mem_range.1 hi)]
theorem yu{P:Program}{n:Nat}{o:Oper}{f:Nat}{s:S2}{K:S2→List Nat×List Nat→Prop}(hd:∀d,o.dst=some d→d<n){g:Option (Nat×Bool)}(h:exD P n { dst:=o.dst,op:=cOp P o.op o.type,guard:=g } f s K) :
    ∃rd wr v e,jg P n o f s.tm s.hp rd v e∧(∀b,e b≠none→b∈wr)∧(cj (cOp P o.op o.type)=false→rd=[]∧e=dq)∧K ⟨aY o.dst v s.tm,c8 e s.hp⟩ (rd,wr):=by
  unfold exD at h
  simp only at h
  split at h
  · rename_i k N z ps hop
    rcases h with⟨h1,h2⟩|⟨h1,h2⟩
    · refine⟨rdH (.lit k N z ps) s.tm,[],_,_,by rw[←hop];exact JA hd (by rw[hop];exact h1),λb hb=>?_,λhh=>by rw[hop]at hh;simp[cj]at hh,by rw[dZ,hop];exact h2⟩
      rw[hop]at hb
      exact absurd rfl hb
    · refine⟨[],[f],_,_,Ti hop hd h1,λb hb=>?_,λhh=>by rw[hop]at hh;simp[cj]at hh,by rw[dZ];exact h2⟩
      have:=vG hb
      simpa[wrH,evL]using this
  · rename_i gg xs hop
    obtain⟨fid,caps,foot,v,e,wr,h1,h2,h3,h4⟩:=h
    rcases h2 with h2|⟨h2,rfl⟩
    · exact⟨foot,wr,v,e,wc hop hd h1 h2,h3,λhh=>by rw[hop]at hh;simp[cj]at hh,h4⟩
    · exact⟨foot,wr,v,dq,DS hop hd h1 h2,h3,λhh=>by rw[hop]at hh;simp[cj]at hh,h4⟩
  · rename_i op hop
    obtain⟨h1,h2⟩:=h
    refine⟨_,_,_,_,JA hd h1,λb hb=>vG hb,λhh=>?_,by rw[dZ];exact h2⟩
    have:=yx hh (f:=f) (ρ:=evO s.tm) (hp:=s.hp) (hp':=s.hp)
    refine⟨by unfold rdH;simp[hh],?_⟩
    funext b
    simp[gq,this.2.1,this.2.2,dq]
theorem yw{P:Program}{n:Nat}{ops:Array Oper}{f0:Nat}{s0:S2}{K:S2→Nat→Log→Prop} :
  ∀(l:List Oper) (k:Nat) (ds:Nat→Dat),k≤ops.size→ops.toList.drop k=l→(∀i,i<k→Good P n ops f0 ds s0 i) →
   evD P n (l.map (fM P n ops)) (f0+16 * k) (stP (λi=>(ops[i]?).bind (·.dst)) ds s0 (λ_=>true) k) (gL ds k) K →
   ∃ds',(∀i,i<ops.size→Good P n ops f0 ds' s0 i)∧K (stP (λi=>(ops[i]?).bind (·.dst)) ds' s0 (λ_=>true) ops.size) (f0+16 * ops.size) (gL ds' ops.size)
 | [],k,ds,hle,hl,hg,h=>by
  have hk:k=ops.size:=by
   have:=congrArg List.length hl
   simp at this;omega
  subst hk
  exact⟨ds,hg,h⟩
 | o::l,k,ds,hle,hl,hg,h=>by
  have hlt:k<ops.size:=by
   have:=congrArg List.length hl
   simp at this;omega
  have ho:ops[k]?=some o:=by
   have:(ops.toList.drop k)[0]?=some o:=by rw[hl];rfl
   rw[List.getElem?_drop]at this
   simpa using this
  have hl':ops.toList.drop (k+1)=l:=by rw[←List.drop_drop,hl];rfl
  -- one more datum
  have next:∀d:Dat,Good P n ops f0 (upd ds k d) s0 k→evD P n (l.map (fM P n ops)) (f0+16 * k+16) ⟨aY o.dst d.v (stP (λi=>(ops[i]?).bind (·.dst)) ds s0 (λ_=>true) k).tm,c8 d.e (stP (λi=>(ops[i]?).bind (·.dst)) ds s0 (λ_=>true) k).hp⟩ (gL ds k++[(d.rd,d.wr)]) K →
    ∃ds',(∀i,i<ops.size→Good P n ops f0 ds' s0 i)∧K (stP (λi=>(ops[i]?).bind (·.dst)) ds' s0 (λ_=>true) ops.size) (f0+16 * ops.size) (gL ds' ops.size):=by
   intro d h1 h2
   have hpre:∀i,i<k→ds i=upd ds k d i:=λi hi=>by rw[aD _ _ (by omega)]
   refine yw l (k+1) (upd ds k d) (by omega) hl' (λi hi=>?_) ?_
   ·by_cases hik:i=k
    ·subst hik;exact h1
    ·exact(hg i (by omega)).congr λj hj=>hpre j (by omega)
   ·rw[JB _ _ _ _ _ rfl,Bs,←lb hpre,←xy hpre]
    simp only[aq,ho,Option.bind_some]
    rw[show f0+16 * (k+1)=f0+16 * k+16 by omega]
    exact h2
  have hst:∀d:Dat,stP (λi=>(ops[i]?).bind (·.dst)) (upd ds k d) s0 (λ_=>true) k=stP (λi=>(ops[i]?).bind (·.dst)) ds s0 (λ_=>true) k:=
   λd=>lb λi hi=>aD _ _ (by omega)
  rw[List.map_cons]at h
  rcases mw P n ops o with hb|⟨g,hgd,hd,hb⟩
  ·rw[hb]at h
   simp only[evD,gn,exD,evA,Out.bad]at h
   exact h.1.elim
  rw[hb]at h
  simp only[evD]at h
  cases hgo:o.guard with
  | none =>
   have hg0:g=none:=by rw[hgo]at hgd;simpa[fN]using hgd.symm
   subst hg0
   simp only at h
   obtain⟨rd,wr,v,e,e1,e2,e3,e4⟩:=yu hd h
   refine next ⟨true,v,e,rd,wr⟩ ⟨o,ho,hd,⟨_,hb,hgd⟩,?_,?_,?_,?_,?_⟩ e4
   ·simp[hgo,aq]
   ·intro _;rw[hst,aq];exact e1
   ·intro hf;rw[aq]at hf;cases hf
   ·rw[aq];exact e2
   ·rw[aq];exact e3
  | some jw =>
   obtain⟨j,want⟩:=jw
   rw[hgo]at hgd
   simp only[fN]at hgd
   split at hgd
   case h_2=>cases hgd
   rename_i d hj
   cases hgd
   obtain⟨t,h1,h2,h3⟩:=h
   by_cases ht:t=some want
   ·obtain⟨rd,wr,v,e,e1,e2,e3,e4⟩:=yu hd (h2 ht)
    refine next ⟨true,v,e,rd,wr⟩ ⟨o,ho,hd,⟨_,hb,?_⟩,?_,?_,?_,?_,?_⟩ e4
    ·rw[hgo];simp only[fN,hj]
    ·rw[hgo];exact⟨d,t,hj,by rw[hst];exact h1,by rw[aq];simp[ht]⟩
    ·intro _;rw[hst,aq];exact e1
    ·intro hf;rw[aq]at hf;cases hf
    ·rw[aq];exact e2
    ·rw[aq];exact e3
   ·refine next ⟨false,.tup [],dq,[],[]⟩ ⟨o,ho,hd,⟨_,hb,?_⟩,?_,?_,?_,?_,?_⟩ ?_
    ·rw[hgo];simp only[fN,hj]
    ·rw[hgo];exact⟨d,t,hj,by rw[hst];exact h1,by rw[aq];simp[ht]⟩
    ·intro hf;rw[aq]at hf;cases hf
    ·intro _;rw[aq];exact⟨rfl,rfl,rfl⟩
    ·rw[aq];intro b hb;exact absurd rfl hb
    ·intro _;rw[aq];exact⟨rfl,rfl⟩
    ·rw[xV];exact h3 ht
end Go.Am
namespace Go.Am
section
variable {P : Program} {n : Nat} {ops : Array Oper} {f0 : Nat} {ds : Nat → Dat} {s0 : S2}
def dF(P:Program)(n:Nat)(ops:Array Oper):List aO:=ops.toList.map (fM P n ops)
def bz(ops:Array Oper):List (List Nat):=ops.toList.map jV
def d9(ops:Array Oper)(i:Nat):Option Nat:=(ops[i]?).bind (·.dst)
structure ir (P:Program) (n:Nat) (ops:Array Oper) (f0:Nat) (ds:Nat→Dat) (s0:S2):Prop where
  good:∀i,i<ops.size→Good P n ops f0 ds s0 i
  reg:wL (bz ops) (ec (bz ops) []) (dF P n ops)=true
  par:EE (wT (ec (bz ops) []) (dF P n ops)) (gL ds ops.size)=true
theorem nj{i:Nat}{o:Oper}(h:ops[i]?=some o):(dF P n ops).getD i gn=fM P n ops o:=by
 unfold dF
 have:ops.toList[i]?=some o:=by simpa using h
 simp[List.getD,this]
theorem iY{i:Nat}{o:Oper}(h:ops[i]?=some o):(bz ops)[i]?=some (jV o):=by
 unfold bz
 have:ops.toList[i]?=some o:=by simpa using h
 simp[this]
theorem ir.lt(S:ir P n ops f0 ds s0){i:Nat}{es:List Nat}(h:(bz ops)[i]?=some es):∀e∈es,e<i:=by
 have:=S.reg
 unfold wL at this
 simp only[Bool.and_eq_true,List.all_eq_true]at this
 have h1:=this.1 (es,i) (by
  rw[List.mem_iff_getElem?]
  refine⟨i,?_⟩
  rw[List.getElem?_zipIdx,h];simp)
 intro e he
 simpa using h1 e he
theorem ir.slots(S:ir P n ops f0 ds s0){i j:Nat}{x y:Oper}(hi:ops[i]?=some y)(hj:ops[j]?=some x)(hlt:j<i) :
  gm (ec (bz ops) []) j i=true∨gD (fM P n ops x) (fM P n ops y)=true:=by
 have:=S.reg
 unfold wL at this
 simp only[Bool.and_eq_true,List.all_eq_true,List.mem_range]at this
 have hil:i<(dF P n ops).length:=by
  have:i<ops.size:=(Array.getElem?_eq_some_iff.1 hi).1
  simpa[dF]using this
 have h1:=this.2 i hil j hlt
 rw[nj hi,nj hj]at h1
 simpa using h1
theorem rN{xs ys:List Nat}(h:Sb xs ys=true){b:Nat}(hx:b∈xs):b ∉ ys:=by
 unfold Sb at h
 have:=(List.all_eq_true.1 h) b hx
 simpa using this
theorem LG{k i:Nat}(h:i<k):(gL ds k).getD i ([],[])=((ds i).rd,(ds i).wr):=by
 unfold gL
 simp[List.getD,h]
theorem ir.heap(S:ir P n ops f0 ds s0){i j:Nat}(hi:i<ops.size)(hlt:j<i)(hnd:gm (ec (bz ops) []) j i=false)(b:Nat) :
  ((ds j).e b≠none→b ∉ (ds i).rd∧(ds i).e b=none)∧((ds i).e b≠none→b ∉ (ds j).rd):=by
 obtain⟨y,hy,hdy,⟨gy,cy,cgy⟩,_,_,_,wy,fy⟩:=S.good i hi
 obtain⟨x,hx,hdx,⟨gx,cx,cgx⟩,_,_,_,wx,fx⟩:=S.good j (by omega)
 by_cases hyh:cj (cOp P y.op y.type)=true
 ·by_cases hxh:cj (cOp P x.op x.type)=true
  ·have hp:=S.par
   unfold EE at hp
   have hm:(j,i)∈wT (ec (bz ops) []) (dF P n ops):=by
    unfold wT
    refine List.mem_flatMap.2 ⟨i,List.mem_range.2 (by simpa[dF]using hi),List.mem_filterMap.2 ⟨j,List.mem_range.2 hlt,?_⟩⟩
    rw[nj hy,nj hx,cy,cx,hnd]
    simp[hyh,hxh]
   have:=(List.all_eq_true.1 hp) _ hm
   simp only[Bool.and_eq_true,LG hi,LG (show j<ops.size by omega)]at this
   refine⟨λh=>?_,λh=>rN this.2 (wy b h)⟩
   have h1:=rN this.1 (wx b h)
   simp only[List.mem_append,not_or]at h1
   refine⟨h1.1,?_⟩
   cases he:(ds i).e b with
   | none=>rfl
   | some z=>exact absurd (wy b (by rw[he];simp)) h1.2
  ·have:=fx (by simpa using hxh)
   exact⟨λh=>absurd (by rw[this.2];rfl) h,λ_=>by rw[this.1];simp⟩
 ·have:=fy (by simpa using hyh)
  exact⟨λ_=>⟨by rw[this.1];simp,by rw[this.2];rfl⟩,λh=>absurd (by rw[this.2];rfl) h⟩
def jZ(ops:Array Oper)(D:Nat→Bool):Prop:=∀i es,(bz ops)[i]?=some es→D i=true→∀e∈es,D e=true
theorem ir.before(S:ir P n ops f0 ds s0){D:Nat→Bool}(hD:jZ ops D){i j:Nat}{es:List Nat}(hi:(bz ops)[i]?=some es)(hr:∀e∈es,D e=true)(h:gm (ec (bz ops) []) j i=true):D j=true:=by
 obtain⟨e,he,h|⟨hlt,h⟩⟩:=yP hi h
 ·subst h;exact hr _ he
 ·refine pB hD e j ?_ h (hr e he)
  have:i<(bz ops).length:=(List.getElem?_eq_some_iff.1 hi).1
  omega
theorem ir.after(S:ir P n ops f0 ds s0){D:Nat→Bool}(hD:jZ ops D){i j:Nat}(hj:j<ops.size)(hi:D i=false)(h:gm (ec (bz ops) []) i j=true):D j=false:=by
 cases hdj:D j with
 | false=>rfl
 | true =>
  have:=pB hD j i (by simpa[bz]using hj) h hdj
  rw[hi]at this;cases this
theorem ir.tm(S:ir P n ops f0 ds s0){D:Nat→Bool}(hD:jZ ops D){i:Nat}{o:Oper}(ho:ops[i]?=some o)(hi:D i=false)(hr:∀e∈jV o,D e=true){t:Nat}(ht:t∈jp (fM P n ops o)) :
  (stP (d9 ops) ds s0 D ops.size).tm t=(stP (d9 ops) ds s0 (λ_=>true) i).tm t:=by
 have hlt:i<ops.size:=(Array.getElem?_eq_some_iff.1 ho).1
 show dG s0.tm (gT (d9 ops) ds) D ops.size t=dG s0.tm (gT (d9 ops) ds) (λ_=>true) i t
 have w:∀j,j<ops.size→j≠i→gT (d9 ops) ds j t≠none→(j<i→D j=true)∧(i<j→D j=false):=by
  intro j hj hne hg
  have hdj:d9 ops j=some t:=by
   unfold gT at hg
   split at hg
   ·assumption
   ·exact absurd rfl hg
  have hoj:ops[j]?=some ops[j]:=Array.getElem?_eq_getElem hj
  have hd':ops[j].dst=some t:=by simpa[d9,hoj]using hdj
  obtain⟨x,hx,hdx,⟨gx,cx,cgx⟩,_⟩:=S.good j hj
  rw[hoj]at hx;cases hx
  refine⟨λhji=>?_,λhij=>?_⟩
  ·rcases S.slots ho hoj hji with h|h
   ·exact S.before hD (iY ho) hr h
   ·exfalso
    unfold gD at h
    rw[cx]at h
    simp only[hd',Bool.and_eq_true]at h
    have:=h.1.1
    simp at this
    exact this ht
  ·rcases S.slots hoj ho hij with h|h
   ·exact S.after hD hj hi h
   ·exfalso
    unfold gD at h
    rw[cx]at h
    simp only[hd',Bool.and_eq_true]at h
    have:=h.2
    simp at this
    exact this ht
 rw[fA (i:=i) (by omega) (λj h1 h2 hg=>?_)]
 ·refine j0 λj hj hg=>?_
  exact((w j (by omega) (by omega) hg).1 hj).trans rfl
 ·by_cases hji:j=i
  ·subst hji;exact hi
  ·exact(w j h2 hji hg).2 (by omega)
theorem ir.hp(S:ir P n ops f0 ds s0){D:Nat→Bool}(hD:jZ ops D){i:Nat}{o:Oper}(ho:ops[i]?=some o)(hi:D i=false)(hr:∀e∈jV o,D e=true){b:Nat}(hb:b∈(ds i).rd) :
  (stP (d9 ops) ds s0 D ops.size).hp b=(stP (d9 ops) ds s0 (λ_=>true) i).hp b:=by
 have hlt:i<ops.size:=(Array.getElem?_eq_some_iff.1 ho).1
 show dG s0.hp (gH ds) D ops.size b=dG s0.hp (gH ds) (λ_=>true) i b
 have w:∀j,j<ops.size→j≠i→gH ds j b≠none→(j<i→D j=true)∧(i<j→D j=false):=by
  intro j hj hne hg
  refine⟨λhji=>?_,λhij=>?_⟩
  ·cases hdep:gm (ec (bz ops) []) j i with
   | true=>exact S.before hD (iY ho) hr hdep
   | false=>exact absurd hb ((S.heap hlt hji hdep b).1 hg).1
  ·cases hdep:gm (ec (bz ops) []) i j with
   | true=>exact S.after hD hj hi hdep
   | false=>exact absurd hb ((S.heap hj hij hdep b).2 hg)
 rw[fA (i:=i) (by omega) (λj h1 h2 hg=>?_)]
 ·refine j0 λj hj hg=>?_
  exact((w j (by omega) (by omega) hg).1 hj).trans rfl
 ·by_cases hji:j=i
  ·subst hji;exact hi
  ·exact(w j h2 hji hg).2 (by omega)
theorem ir.add(S:ir P n ops f0 ds s0){D:Nat→Bool}(hD:jZ ops D){i:Nat}{o:Oper}(ho:ops[i]?=some o)(hi:D i=false){D':Nat→Bool}(hD':∀j,D' j=(D j || j==i)) :
  (stP (d9 ops) ds s0 D' ops.size).tm=aY o.dst (ds i).v (stP (d9 ops) ds s0 D ops.size).tm∧(stP (d9 ops) ds s0 D' ops.size).hp=c8 (ds i).e (stP (d9 ops) ds s0 D ops.size).hp:=by
 have hlt:i<ops.size:=(Array.getElem?_eq_some_iff.1 ho).1
 have hdi:d9 ops i=o.dst:=by simp[d9,ho]
 have hDi:D' i=true:=by rw[hD' i];simp
 have hne:∀j,j≠i→D' j=D j:=by
  intro j hj;rw[hD' j]
  have:(j==i)=false:=by simpa using hj
  simp[this]
 have gen:∀{β:Type} (f:Nat→β) (g:Nat→Nat→Option β) (x:Nat),(g i x≠none→∀j,j<ops.size→i<j→g j x≠none→D j=false) →
   dG f g D' ops.size x=(g i x).getD (dG f g D ops.size x):=by
  intro β f g x hw
  cases hg:g i x with
  | none =>
   rw[Option.getD_none]
   refine j0 λj hj hgj=>?_
   by_cases h:j=i
   ·subst h;exact absurd hg hgj
   ·exact hne j h
  | some v =>
   rw[Option.getD_some,fA (i:=i+1) (by omega) (λj h1 h2 h3=>?_)]
   ·simp only[dG,hDi,↓reduceIte,hg,Option.getD_some]
   ·rw[hne j (by omega)]
    exact hw (by rw[hg];simp) j h2 (by omega) h3
 constructor
 ·funext t
  have h1:=gen s0.tm (gT (d9 ops) ds) t (λh0 j hj hij hg=>by
   have hdi':o.dst=some t:=by
    unfold gT at h0
    split at h0
    ·rename_i h;rw[hdi]at h;exact h
    ·exact absurd rfl h0
   have hdj:d9 ops j=some t:=by
    unfold gT at hg
    split at hg
    ·assumption
    ·exact absurd rfl hg
   have hoj:ops[j]?=some ops[j]:=Array.getElem?_eq_getElem hj
   have hd':ops[j].dst=some t:=by simpa[d9,hoj]using hdj
   obtain⟨x,hx,hdx,⟨gx,cx,cgx⟩,_⟩:=S.good j hj
   rw[hoj]at hx;cases hx
   obtain⟨y,hy,hdy,⟨gy,cy,cgy⟩,_⟩:=S.good i hlt
   rw[ho]at hy;cases hy
   rcases S.slots hoj ho hij with h|h
   ·exact S.after hD hj hi h
   ·exfalso
    unfold gD at h
    rw[cx,cy]at h
    simp only[hd',hdi',Bool.and_eq_true]at h
    have:=h.1.2
    simp at this)
  show dG s0.tm (gT (d9 ops) ds) D' ops.size t=aY o.dst (ds i).v (λx=>dG s0.tm (gT (d9 ops) ds) D ops.size x) t
  rw[h1]
  unfold gT
  rw[hdi]
  cases hd:o.dst with
  | none=>simp[aY]
  | some d =>
   by_cases e:d=t
   ·subst e;simp[aY,upd]
   ·have:¬t=d:=λh=>e h.symm
    simp[aY,upd,e,this]
 ·funext b
  have h1:=gen s0.hp (gH ds) b (λh0 j hj hij hg=>by
   cases hdep:gm (ec (bz ops) []) i j with
   | true=>exact S.after hD hj hi hdep
   | false=>exact absurd ((S.heap hj hij hdep b).1 h0).2 hg)
  show dG s0.hp (gH ds) D' ops.size b=c8 (ds i).e (λx=>dG s0.hp (gH ds) D ops.size x) b
  rw[h1]
  unfold gH c8
  cases (ds i).e b<;>rfl
end
end Go.Am
namespace Go.Am
theorem rO{p q:Nat→Bool}:∀(l:List Nat),(∀x∈l,p x=true→q x=true)→∀i∈l,q i=true→p i=false→l.countP p<l.countP q
 | [],_,i,hi,_,_=>by simp at hi
 | x::l,h,i,hi,hq,hp=>by
  have hle:∀(l:List Nat),(∀x∈l,p x=true→q x=true)→l.countP p≤l.countP q:=λl h=>List.countP_mono_left h
  rw[List.countP_cons,List.countP_cons]
  by_cases hx:x=i
  ·subst hx
   simp only[hp,hq]
   have:=hle l λy hy=>h y (by simp[hy])
   simp;omega
  ·have hi':i∈l:=by simpa[Ne.symm hx]using hi
   have:=rO l (λy hy=>h y (by simp[hy])) i hi' hq hp
   have hx2:=h x (by simp)
   cases hpx:p x with
   | false=>cases hqx:q x<;>simp<;>omega
   | true=>rw[hx2 hpx];simp;omega
def unl(N:Nat)(listed:Array Bool):Nat:=(List.range N).countP λi=>!listed.getD i true
section
variable {P : Program} {n : Nat} {ops : Array Oper} {f0 : Nat} {ds : Nat → Dat} {s0 : S2} {Q : Exit → Act → World → Prop} {c : Ctx}
def Dl(listed:Array Bool):Nat→Bool:=λi=>listed.getD i false
def frD(ops:Array Oper)(f0:Nat)(D:Nat→Bool)(b:Nat):Prop:=f0≤b∧∀k,k<ops.size→D k=true→¬(f0+16 * k≤b∧b<f0+16 * k+16)
theorem lu{listed:Array Bool}{i:Nat}:i∈Region.ready .any ops listed↔i<ops.size∧listed.getD i true=false∧∃o,ops[i]?=some o∧∀e∈jV o,Dl listed e=true:=by
 unfold Region.ready
 simp only[List.mem_filter,List.mem_range,Bool.and_eq_true,Bool.not_eq_true']
 constructor
 ·rintro⟨h1,h2,h3⟩
  refine⟨h1,h2,ops[i],Array.getElem?_eq_getElem h1,?_⟩
  rw[Array.getElem?_eq_getElem h1]at h3
  simp only[Option.map_some,Option.getD_some,Array.all_eq_true]at h3
  intro e he
  unfold jV at he
  simp only[List.mem_map,List.mem_filter]at he
  obtain⟨x,⟨hx,hb⟩,rfl⟩:=he
  obtain⟨k,hk,hkx⟩:=Array.mem_iff_getElem.1 (Array.mem_toList_iff.1 hx)
  have:=h3 k hk
  rw[hkx,hb]at this
  simpa[Dl]using this
 ·rintro⟨h1,h2,o,h3,h4⟩
  refine⟨h1,h2,?_⟩
  rw[h3]
  simp only[Option.map_some,Option.getD_some,Array.all_eq_true]
  intro k hk
  cases hb:Region.binds .any o.after[k]with
  | false=>simp
  | true =>
   have:=h4 o.after[k].on (by
    unfold jV
    simp only[List.mem_map,List.mem_filter]
    exact⟨_,⟨Array.mem_toList_iff.2 (Array.getElem_mem hk),hb⟩,rfl⟩)
   simpa[Dl]using this
theorem Dd(S:ir P n ops f0 ds s0){listed:Array Bool}(hsz:listed.size=ops.size)(h:Region.ready .any ops listed=[]):∀i,i<ops.size→Dl listed i=true:=by
 intro i
 induction i using Nat.strongRecOn with
 | _ i ih =>
  intro hi
  cases hd:Dl listed i with
  | true=>rfl
  | false =>
   exfalso
   have:i∈Region.ready .any ops listed:=by
    refine lu.2 ⟨hi,?_,ops[i],Array.getElem?_eq_getElem hi,λe he=>ih e ?_ ?_⟩
    ·unfold Dl at hd
     have hlt:i<listed.size:=by omega
     have e1:listed.getD i true=listed[i]:=by unfold Array.getD;rw[dif_pos hlt];rfl
     have e2:listed.getD i false=listed[i]:=by unfold Array.getD;rw[dif_pos hlt];rfl
     rw[e1,←e2,hd]
    ·exact S.lt (iY (Array.getElem?_eq_getElem hi)) e he
    ·have:=S.lt (iY (Array.getElem?_eq_getElem hi)) e he;omega
   rw[h]at this;simp at this
theorem Iz(S:ir P n ops f0 ds s0)(hQ:∀a w A μ,aI P c A μ (λb=>f0+16 * ops.size≤b) (stP (d9 ops) ds s0 (λ_=>true) ops.size).tm (stP (d9 ops) ds s0 (λ_=>true) ops.size).hp n a w→Q .normal a w) :
  ∀(fuel:Nat) (listed:Array Bool) (a:Act) (w:World) (A:Nat→Prop) (μ:Mu),listed.size=ops.size→jZ ops (Dl listed)→unl ops.size listed≤fuel →
   aI P c A μ (frD ops f0 (Dl listed)) (stP (d9 ops) ds s0 (Dl listed) ops.size).tm (stP (d9 ops) ds s0 (Dl listed) ops.size).hp n a w→wpAny P .any ops Q fuel listed a w:=by
 have done:∀(listed:Array Bool) (a:Act) (w:World) (A:Nat→Prop) (μ:Mu),(∀i,i<ops.size→Dl listed i=true) →
   aI P c A μ (frD ops f0 (Dl listed)) (stP (d9 ops) ds s0 (Dl listed) ops.size).tm (stP (d9 ops) ds s0 (Dl listed) ops.size).hp n a w→Q .normal a w:=by
  intro listed a w A μ hall H
  have e1:stP (d9 ops) ds s0 (Dl listed) ops.size=stP (d9 ops) ds s0 (λ_=>true) ops.size:=by
   unfold stP
   congr 1
   ·funext x;exact j0 λj hj _=>hall j hj
   ·funext x;exact j0 λj hj _=>hall j hj
  rw[e1]at H
  exact hQ a w A μ (H.free λb hb=>⟨by omega,λk hk _ h=>by omega⟩)
 intro fuel
 induction fuel with
 | zero =>
  intro listed a w A μ hsz hcl hu H
  have hall:∀i,i<ops.size→Dl listed i=true:=by
   intro i hi
   have h0:unl ops.size listed=0:=by omega
   unfold unl at h0
   rw[List.countP_eq_zero]at h0
   have:=h0 i (List.mem_range.2 hi)
   have hlt:i<listed.size:=by omega
   have e1:listed.getD i true=listed[i]:=by unfold Array.getD;rw[dif_pos hlt];rfl
   have e2:listed.getD i false=listed[i]:=by unfold Array.getD;rw[dif_pos hlt];rfl
   unfold Dl;rw[e2,←e1];simpa using this
  refine⟨?_,done listed a w A μ hall H⟩
  cases hr:Region.ready .any ops listed with
  | nil=>rfl
  | cons i l =>
   exfalso
   obtain⟨h1,h2,_⟩:=lu.1 (show i∈Region.ready .any ops listed by rw[hr];simp)
   have:=hall i h1
   have hlt:i<listed.size:=by omega
   have e1:listed.getD i true=listed[i]:=by unfold Array.getD;rw[dif_pos hlt];rfl
   have e2:listed.getD i false=listed[i]:=by unfold Array.getD;rw[dif_pos hlt];rfl
   unfold Dl at this;rw[e2,←e1,h2]at this;cases this
 | succ fuel ih =>
  intro listed a w A μ hsz hcl hu H
  refine⟨λhr=>done listed a w A μ (Dd S hsz hr) H,λi hi=>?_⟩
  obtain⟨hlt,hun,o,ho,hr⟩:=lu.1 hi
  have hll:i<listed.size:=by omega
  have hDi:Dl listed i=false:=by
   have e1:listed.getD i true=listed[i]:=by unfold Array.getD;rw[dif_pos hll];rfl
   have e2:listed.getD i false=listed[i]:=by unfold Array.getD;rw[dif_pos hll];rfl
   unfold Dl;rw[e2,←e1,hun]
  have hD':∀j,Dl (listed.setIfInBounds i true) j=(Dl listed j || j==i):=by
   intro j
   unfold Dl
   by_cases hji:j=i
   ·subst hji
    simp[Array.getD,hll]
   ·have h1:(j==i)=false:=by simpa using hji
    rw[h1,Bool.or_false]
    simp only[Array.getD_eq_getD_getElem?,Array.getElem?_setIfInBounds_ne (Ne.symm hji)]
  have hcl':jZ ops (Dl (listed.setIfInBounds i true)):=by
   intro k es hk hDk e he
   rw[hD']at hDk ⊢
   by_cases hki:k=i
   ·subst hki
    rw[iY ho]at hk;cases hk
    rw[hr e he];rfl
   ·have h1:(k==i)=false:=by simpa using hki
    rw[h1,Bool.or_false]at hDk
    rw[hcl k es hk hDk e he];rfl
  have hunl:unl ops.size (listed.setIfInBounds i true)≤fuel:=by
   have:unl ops.size (listed.setIfInBounds i true)<unl ops.size listed:=by
    unfold unl
    refine rO _ (λx hx h=>?_) i (List.mem_range.2 hlt) (by simp[hun]) (by simp[Array.getD,hll])
    by_cases hxi:x=i
    ·subst hxi;simp[hun]
    ·simpa only[Array.getD_eq_getD_getElem?,Array.getElem?_setIfInBounds_ne (Ne.symm hxi)]using h
   omega
  obtain⟨t1,t2⟩:=S.add hcl ho hDi hD'
  have hfr:∀b,frD ops f0 (Dl (listed.setIfInBounds i true)) b→frD ops f0 (Dl listed) b∧¬(f0+16 * i≤b∧b<f0+16 * i+16):=by
   rintro b ⟨h1,h2⟩
   refine⟨⟨h1,λk hk hDk=>h2 k hk (by rw[hD',hDk];rfl)⟩,h2 i hlt (by rw[hD'];simp)⟩
  obtain⟨o',ho',hdn,⟨g,hco,hcg⟩,hgu,hgo,hng,hwr,_⟩:=S.good i hlt
  rw[ho]at ho';cases ho'
  have hslots:∀t,t∈jp (fM P n ops o)→(stP (d9 ops) ds s0 (Dl listed) ops.size).tm t=(stP (d9 ops) ds s0 (λ_=>true) i).tm t:=λt ht=>S.tm hcl ho hDi hr ht
  unfold wpOp
  rw[ho]
  simp only
  have hgo2:(Region.wanted o (yielded ops a.tmps))=(ds i).go:=by
   cases hgd:o.guard with
   | none=>rw[hgd]at hgu;simp[Region.wanted,hgd,hgu]
   | some jw =>
    obtain⟨j,want⟩:=jw
    rw[hgd]at hgu
    obtain⟨d,t,h1,h2,h3⟩:=hgu
    rw[hgd]at hcg
    simp only[fN,h1]at hcg
    cases hcg
    have hs:=hslots d (by rw[hco];simp[jp])
    have h2':gv ((stP (d9 ops) ds s0 (λ_=>true) i).tm d)=some t:=h2
    rw[←hs]at h2'
    have:=yb h1 (H.tm d) h2'
    rw[h3]
    simp only[Region.wanted,hgd,this]
    by_cases htw:t=some want<;>simp[htw]
  rw[hgo2]
  cases hg:(ds i).go with
  | true =>
   simp only[↓reduceIte]
   left
   refine hgo hg c A μ (frD ops f0 (Dl listed)) (stP (d9 ops) ds s0 (Dl listed) ops.size).tm (stP (d9 ops) ds s0 (Dl listed) ops.size).hp a w _ Q H ?_ ?_ ?_ ?_
   ·intro t ht
    refine hslots t ?_
    rw[hco]
    unfold jp
    exact List.mem_append.2 (.inl (List.mem_filterMap.2 ⟨_,ht,rfl⟩))
   ·intro b hb;exact S.hp hcl ho hDi hr hb
   ·intro j hj
    refine⟨by omega,λk hk hDk h=>?_⟩
    have:k≠i:=by rintro rfl;rw[hDi]at hDk;cases hDk
    omega
   ·intro a' w' A' μ' hr'
    refine ih _ a' w' A' μ' (by simpa using hsz) hcl' hunl ?_
    rw[t1,t2]
    exact hr'.free λb hb=>hfr b hb
  | false =>
   simp only[Bool.false_eq_true,↓reduceIte]
   obtain⟨q1,q2,q3⟩:=hng hg
   refine ih _ _ w A μ (by simpa using hsz) hcl' hunl ?_
   rw[t1,t2,q1,q2,xV]
   exact(H.put (v:=.tup []) (cv:=undef) o.dst hdn ⟨[],rfl,rfl⟩).free λb hb=>(hfr b hb).1
end
end Go.Am
namespace Go.Am
def WR(P:Program)(n:Nat)(ops:Array Oper)(draw:Bool):AC:=
 if draw then
  (if P.follows .mixedOrders && wL (bz ops) (ec (bz ops) []) (dF P n ops)then .dreg (dF P n ops) (wT (ec (bz ops) []) (dF P n ops))else .bad)
 else .reg (dF P n ops)
def eZ(P:Program)(n:Nat):Code→AC
 | .skip=>.skip
 | .region _ ops draw=>WR P n ops draw
 | .seq a b=>.seq (eZ P n a) (eZ P n b)
 | .cond c x y=>.cond (cO P c) (eZ P n x) (eZ P n y)
 | .block id c=>.block id (eZ P n c)
 | .loop c=>.loop (eZ P n c)
 | .exit id=>.exit id
 | .ret=>.ret
 | _=>.bad
structure S3 where
  tm:Nat→AV
  hp:Hp
  nx:Nat
def Rel(P:Program)(k:Nat)(c:Ctx)(n:Nat)(s:S3)(a:Act)(w:World):Prop:=
 (∀b,k≤b→c.mu b=none)∧∃A μ,aI P c A μ (λb=>s.nx≤b) s.tm s.hp n a w
inductive X where
  | normal
  | exit (id:Nat)
  | ret
def post(P:Program)(k:Nat)(c:Ctx)(n:Nat)(Q:X→S3→Prop):Exit→Act→World→Prop
 | .normal,a,w=>∃s,Q .normal s∧Rel P k c n s a w
 | .exit id,a,w=>∃s,Q (.exit id) s∧Rel P k c n s a w
 | .ret,a,w=>∃s,Q .ret s∧Rel P k c n s a w
 | _,_,_=>False
def AWP(P:Program)(k n:Nat)(ac:AC)(Q:X→S3→Prop)(s:S3):Prop:=
 ∀code,eZ P n code=ac→∀c a w,Rel P k c n s a w→code.wp P (post P k c n Q) a w
def DP(K:S3→Prop)(Q:X→S3→Prop):X→S3→Prop
 | .normal,s=>K s
 | e,s=>Q e s
def xQ(id:Nat)(Q:X→S3→Prop):X→S3→Prop
 | .exit id',s=>if id'=id then Q .normal s else Q (.exit id') s
 | e,s=>Q e s
section
variable {P : Program} {k n : Nat} {Q : X → S3 → Prop} {s : S3}
theorem ez{ops:Array Oper}{draw:Bool}{ac:AC}(h:WR P n ops draw=ac):ac=.bad∨(draw=false∧ac=.reg (dF P n ops)) ∨
  (draw=true∧P.follows .mixedOrders=true∧wL (bz ops) (ec (bz ops) []) (dF P n ops)=true∧ac=.dreg (dF P n ops) (wT (ec (bz ops) []) (dF P n ops))):=by
 unfold WR at h
 cases draw with
 | false=>simp at h;exact .inr (.inl ⟨rfl,h.symm⟩)
 | true =>
  simp only[↓reduceIte]at h
  split at h
  ·rename_i hh
   simp only[Bool.and_eq_true]at hh
   exact .inr (.inr ⟨rfl,hh.1,hh.2,h.symm⟩)
  ·exact .inl h.symm
theorem AWP.skip(h:Q .normal s):AWP P k n .skip Q s:=by
 intro code hc c a w H
 cases code<;>simp only[eZ]at hc<;>try cases hc
 ·exact wp_skip ⟨s,h,H⟩
 ·rcases ez hc with h'|⟨_,h'⟩|⟨_,_,_,h'⟩<;>cases h'
theorem AWP.exit{id:Nat}(h:Q (.exit id) s):AWP P k n (.exit id) Q s:=by
 intro code hc c a w H
 cases code<;>simp only[eZ]at hc<;>try cases hc
 ·rcases ez hc with h'|⟨_,h'⟩|⟨_,_,_,h'⟩<;>cases h'
 ·exact wp_exit ⟨s,h,H⟩
theorem AWP.ret(h:Q .ret s):AWP P k n .ret Q s:=by
 intro code hc c a w H
 cases code<;>simp only[eZ]at hc<;>try cases hc
 ·rcases ez hc with h'|⟨_,h'⟩|⟨_,_,_,h'⟩<;>cases h'
 ·exact wp_ret ⟨s,h,H⟩
theorem AWP.seq{x y:AC}(h:AWP P k n x (DP (AWP P k n y Q) Q) s):AWP P k n (.seq x y) Q s:=by
 intro code hc c a w H
 cases code<;>simp only[eZ]at hc<;>try cases hc
 ·rcases ez hc with h'|⟨_,h'⟩|⟨_,_,_,h'⟩<;>cases h'
 ·rename_i x' y'
  refine wp_seq (wp_mono (h x' rfl c a w H) ?_)
  intro e a' w' hq
  cases e with
  | normal =>
   obtain⟨s',h1,h2⟩:=hq
   exact h1 y' rfl c a' w' h2
  | exit id=>exact hq
  | ret=>exact hq
  | _=>exact hq.elim
theorem AWP.cond{cc:AO}{x y:AC}{b:Bool}(hb:evO s.tm cc=.val (.bool b))(hx:b=true→AWP P k n x Q s)(hy:b=false→AWP P k n y Q s):AWP P k n (.cond cc x y) Q s:=by
 intro code hc c a w H
 cases code<;>simp only[eZ]at hc<;>try cases hc
 ·rcases ez hc with h'|⟨_,h'⟩|⟨_,_,_,h'⟩<;>cases h'
 ·rename_i c' x' y'
  obtain⟨h0,A,μ,hr⟩:=H
  have hv:=hr.ev c'
  rw[hb]at hv
  obtain⟨hv,_⟩:=hv
  exact wp_cond_split hv (λe=>hx e x' rfl c a w ⟨h0,A,μ,hr⟩) (λe=>hy e y' rfl c a w ⟨h0,A,μ,hr⟩)
theorem AWP.block{id:Nat}{x:AC}(h:AWP P k n x (xQ id Q) s):AWP P k n (.block id x) Q s:=by
 intro code hc c a w H
 cases code<;>simp only[eZ]at hc<;>try cases hc
 ·rcases ez hc with h'|⟨_,h'⟩|⟨_,_,_,h'⟩<;>cases h'
 ·rename_i x'
  refine wp_block (wp_mono (h x' rfl c a w H) ?_)
  intro e a' w' hq
  cases e with
  | normal=>exact hq
  | exit id' =>
   obtain⟨s',h1,h2⟩:=hq
   simp only[xQ]at h1
   simp only[Exit.inBlock]
   split
   ·rename_i e;rw[if_pos e]at h1;exact⟨s',h1,h2⟩
   ·rename_i e;rw[if_neg e]at h1;exact⟨s',h1,h2⟩
  | ret=>exact hq
  | _=>exact hq.elim
theorem AWP.mono{x:AC}{Q':X→S3→Prop}(h:AWP P k n x Q s)(hq:∀e s,Q e s→Q' e s):AWP P k n x Q' s:=by
 intro code hc c a w H
 refine wp_mono (h code hc c a w H) ?_
 intro e a' w' h'
 cases e with
 | normal=>obtain⟨s',h1,h2⟩:=h';exact⟨s',hq _ _ h1,h2⟩
 | exit id'=>obtain⟨s',h1,h2⟩:=h';exact⟨s',hq _ _ h1,h2⟩
 | ret=>obtain⟨s',h1,h2⟩:=h';exact⟨s',hq _ _ h1,h2⟩
 | _=>exact h'.elim
def aQ(k n:Nat)(s s':S3):Prop:=∀P c a w,Rel P k c n s a w→Rel P k c n s' a w
theorem aQ.refl:aQ k n s s:=λ_ _ _ _ h=>h
theorem aQ.trans{s1 s2 s3:S3}(h:aQ k n s1 s2)(h':aQ k n s2 s3):aQ k n s1 s3:=λP c a w H=>h' P c a w (h P c a w H)
theorem AWP.weak{x:AC}{s':S3}(hw:aQ k n s s')(h:AWP P k n x Q s'):AWP P k n x Q s:=λcode hc c a w H=>h code hc c a w (hw P c a w H)
theorem IJ{c:Code}{Q:Exit→Act→World→Prop}(I:Nat→Act→World→Prop){m:Nat}{a:Act}{w:World}(h₀:I m a w)
  (round:∀m a w,I m a w→c.wp P (Exit.then (λa' w'=>∃m',m'<m∧I m' a' w') Q) a w):(Code.loop c).wp P Q a w:=by
 intro b k cs
 have key:∀m a w,I m a w→∃e a' w',Q e a' w'∧Arrives P (lone (b.at a (.code c::.inLoop c::k)) cs w) b k cs e a' w':=by
  intro m
  induction m using Nat.strongRecOn with
  | _ m ih =>
   intro a w hI
   obtain⟨e,a₁,w₁,hq,harr⟩:=round m a w hI b (.inLoop c::k) cs
   cases e with
   | normal =>
    obtain⟨m',hlt,hI₁⟩:=hq
    obtain⟨e₂,a₂,w₂,hq₂,harr₂⟩:=ih m' hlt a₁ w₁ hI₁
    exact⟨e₂,a₂,w₂,hq₂,.of_steps (Steps.trans harr (.one step_inLoop)) harr₂⟩
   | exit id=>exact⟨_,a₁,w₁,hq,.pass (x:=.inLoop c) rfl (λ_ _=>.inl (by simp)) harr⟩
   | goto l=>exact⟨_,a₁,w₁,hq,.pass (x:=.inLoop c) rfl (λ_ _=>.inl (by simp)) harr⟩
   | ret=>exact⟨_,a₁,w₁,hq,.pass (x:=.inLoop c) rfl (λ_ _=>.inl (by simp)) harr⟩
   | panic ch=>exact⟨_,a₁,w₁,hq,.pass (x:=.inLoop c) rfl (λ_ _=>.inl (by simp)) harr⟩
   | outgrown=>exact⟨_,a₁,w₁,hq,.pass (x:=.inLoop c) rfl (λ_ _=>.inl (by simp)) harr⟩
 obtain⟨e,a',w',hq,harr⟩:=key _ a w h₀
 exact⟨e,a',w',hq,.of_steps (.one step_loop) harr⟩
theorem AWP.loop{x:AC}(I:Nat→S3→Prop){m:Nat}(h0:∃s',aQ k n s s'∧I m s')(round:∀m s,I m s→AWP P k n x (DP (λs'=>∃m' s'',m'<m∧aQ k n s' s''∧I m' s'') Q) s):AWP P k n (.loop x) Q s:=by
 intro code hc c a w H
 cases code<;>simp only[eZ]at hc<;>try cases hc
 ·rcases ez hc with h'|⟨_,h'⟩|⟨_,_,_,h'⟩<;>cases h'
 ·rename_i x'
  obtain⟨s',hw,hI⟩:=h0
  refine IJ (λm a w=>∃s,I m s∧Rel P k c n s a w) (m:=m) ⟨s',hI,hw P c a w H⟩ ?_
  rintro m a w ⟨s,hI,hr⟩
  refine wp_mono (round m s hI x' rfl c a w hr) ?_
  intro e a' w' hq
  cases e with
  | normal =>
   obtain⟨s1,⟨m',s2,h1,h2,h3⟩,h4⟩:=hq
   exact⟨m',h1,s2,h3,h2 P c a' w' h4⟩
  | exit id=>exact hq
  | ret=>exact hq
  | _=>exact hq.elim
theorem AWP.reg{ops:List aO}(h:evT P n ops s.nx ⟨s.tm,s.hp⟩ (λs' f=>Q .normal ⟨s'.tm,s'.hp,f⟩)):AWP P k n (.reg ops) Q s:=by
 intro code hc c a w H
 cases code<;>simp only[eZ]at hc<;>try cases hc
 rename_i id ops' draw
 rcases ez hc with h'|⟨hd,h'⟩|⟨_,_,_,h'⟩
 ·cases h'
 ·subst hd
  cases h'
  obtain⟨h0,A,μ,hr⟩:=H
  exact wp_region_list (rK (c:=c) _ (λs' f a w A μ hK hr=>⟨⟨s'.tm,s'.hp,f⟩,hK,h0,A,μ,hr⟩) ops'.toList s.nx ⟨s.tm,s.hp⟩ a w A μ h hr)
 ·cases h'
theorem AWP.dreg{ops:List aO}{par:List (Nat×Nat)}(h:evD P n ops s.nx ⟨s.tm,s.hp⟩ [] (λs' f lg=>EE par lg=true∧Q .normal ⟨s'.tm,s'.hp,f⟩)):AWP P k n (.dreg ops par) Q s:=by
  intro code hc c a w H
  cases code<;>simp only[eZ]at hc<;>try cases hc
  rename_i id ops' draw
  rcases ez hc with h'|⟨hd,h'⟩|⟨hd,hm,hreg,h'⟩
  · cases h'
  · cases h'
  · subst hd
    cases h'
    obtain⟨h0,A,μ,hr⟩:=H
    obtain⟨ds,g1,g2,g3⟩:=yw (P:=P) (n:=n) (ops:=ops') (f0:=s.nx) (s0:=⟨s.tm,s.hp⟩) ops'.toList 0 (λ_=>default) (Nat.zero_le _) rfl (λi hi=>by omega) h
    have S:ir P n ops' s.nx ds ⟨s.tm,s.hp⟩:=⟨g1,hreg,g2⟩
    refine wp_region_any hm ?_
    have hDl:Dl (Array.replicate ops'.size false)=λ_=>false:=by
      funext i;unfold Dl;simp[Array.getD]
    have hst:stP (d9 ops') ds ⟨s.tm,s.hp⟩ (λ_=>false) ops'.size=⟨s.tm,s.hp⟩:=by
      unfold stP
      congr 1
      · funext x;exact fA (i:=0) (Nat.zero_le _) (λ_ _ _ _=>rfl)
      · funext x;exact fA (i:=0) (Nat.zero_le _) (λ_ _ _ _=>rfl)
    refine Iz (c:=c) S (λa w A μ hr=>⟨_,g3,h0,A,μ,hr⟩) ops'.size _ a _ A μ (by simp) ?_ ?_ ?_
    · rw[hDl];intro i es _ h;cases h
    · unfold unl;exact Nat.le_trans (List.countP_le_length) (by simp)
    · rw[hDl,hst]
      obtain⟨r,_⟩:=hr.step (w':={ w with drawn:=w.drawn+1 }) rfl rfl rfl (Nat.le_refl _) s.hp (λ_ _ h=>h) (λ_ _ _=>rfl) (λ_=>False) (λ_ h=>h.elim)
      have hA:(λx=>A x∨False)=A:=by funext x;simp
      rw[hA]at r
      exact r.free λb hb=>hb.1
end
end Go.Am
namespace Go.Am
section
variable {P : Program} {k n : Nat} {s s' : S3}
theorem aQ.ren(π:Nat→Nat)(h1:∀t,s'.tm t=.unk∨(s.tm t=(s'.tm t).ren π∧(s'.tm t).bel s'.nx))(h2:∀b x,s'.hp b=some x→b<s'.nx∧s.hp (π b)=some (x.ren π)∧x.bel s'.nx)
  (h3:∀b b',s'.hp b≠none→s'.hp b'≠none→π b=π b'→b=b') (h4:∀b,b<k→π b=b) (h5:k≤s'.nx):aQ k n s s':=by
 rintro P c a w ⟨h0,A,μ,H⟩
 refine⟨h0,A,λb=>if b<s'.nx then μ (π b)else none,?_⟩
 have hun:∀b,b<s'.nx→∀hd,μ (π b)=some hd→(if b<s'.nx then μ (π b)else none)=some hd:=λb hb hd e=>by rw[if_pos hb];exact e
 refine⟨λt=>?_,H.n,H.df,λb x hx=>?_,λb b' x x' hd hd' hx hx' hm hm' he he' heq=>?_,H.lt,λb hb=>?_,H.keep,H.A0,H.A1,λb hd hb=>?_⟩
 ·rcases h1 t with h|⟨e1,e2⟩
  ·rw[h];trivial
  ·have:=H.tm t
   rw[e1]at this
   exact RV.unren hun e2 this
 ·obtain⟨e1,e2,e3⟩:=h2 b x hx
  obtain⟨hd,g1,g2,g3⟩:=H.blk _ _ e2
  exact⟨hd,hun b e1 hd g1,g2.unren hun e3,g3⟩
 ·obtain⟨e1,e2,e3⟩:=h2 b x hx
  obtain⟨f1,f2,f3⟩:=h2 b' x' hx'
  rw[if_pos e1]at hm;rw[if_pos f1]at hm'
  exact h3 b b' (by rw[hx];simp) (by rw[hx'];simp) (H.inj _ _ _ _ _ _ e2 f2 hm hm' he he' heq)
 ·refine⟨if_neg (by omega),?_⟩
  cases hx:s'.hp b with
  | none=>rfl
  | some x=>have:=(h2 b x hx).1;omega
 ·have hbk:b<k:=by
   rcases Nat.lt_or_ge b k with h|h
   ·exact h
   ·rw[h0 b h]at hb;cases hb
  have:=H.mu b hd hb
  show(if b<s'.nx then μ (π b)else none)=some hd
  rw[if_pos (by omega),h4 b hbk];exact this
def bO(b:Nat)(hp:Hp)(x y:AV):Prop:=
 ∀(P:Program) (c:Ctx) (A:Nat→Prop) (μ:Mu) (fr:Nat→Prop) (tm':Nat→AV) (n:Nat) (a:Act) (w:World) (cv:Value),aI P c A μ fr tm' hp n a w →
  RV w A x μ cv→RV w (λk=>A k∨∃hd,μ b=some hd∧hd.emp=none∧hd.blk=k) y μ cv
def dT(b:Nat)(hp:Hp):List AV→List AV→Prop
 | [],[]=>True
 | x::xs,y::ys=>bO b hp x y∧dT b hp xs ys
 | _,_=>False
theorem dT.rvl{P:Program}{b:Nat}{hp:Hp}{c:Ctx}{A:Nat→Prop}{μ:Mu}{fr:Nat→Prop}{tm':Nat→AV}{n:Nat}{a:Act}{w:World}(H:aI P c A μ fr tm' hp n a w) :
  ∀{xs ys:List AV} {vs:List Value},dT b hp xs ys→RVL w A xs μ vs→RVL w (λk=>A k∨∃hd,μ b=some hd∧hd.emp=none∧hd.blk=k) ys μ vs
 | [],[],_,_,h=>h
 | x::xs,y::ys,_,hv,⟨v,vs',h1,h2,h3⟩=>⟨v,vs',h1,hv.1 P c A μ fr tm' n a w v H h2,dT.rvl H hv.2 h3⟩
 | [],_::_,_,hv,_=>hv.elim
 | _::_,[],_,hv,_=>hv.elim
theorem bO.refl{b:Nat}{hp:Hp}{x:AV}:bO b hp x x:=λP c A μ fr tm' n a w cv H hv=>hv.mono (dc.refl A w) (λk h=>.inl h) x (bv.refl _)
theorem dT.refl{b:Nat}{hp:Hp}:∀{xs:List AV},dT b hp xs xs
 | []=>trivial
 | _::_=>⟨bO.refl,dT.refl⟩
theorem bO.agg{b:Nat}{hp:Hp}{xs ys:List AV}(h:dT b hp xs ys):bO b hp (.agg xs) (.agg ys):=by
 rintro P c A μ fr tm' n a w cv H ⟨vs,e1,e2,e3⟩
 exact⟨vs,e1,h.rvl H e2,e3⟩
theorem bO.tup{b:Nat}{hp:Hp}{xs ys:List AV}(h:dT b hp xs ys):bO b hp (.tup xs) (.tup ys):=by
 rintro P c A μ fr tm' n a w cv H ⟨vs,e1,e2⟩
 exact⟨vs,e1,h.rvl H e2⟩
theorem bO.func{b:Nat}{hp:Hp}{g:FuncId}{xs ys:List AV}(h:dT b hp xs ys):bO b hp (.func g xs) (.func g ys):=by
 rintro P c A μ fr tm' n a w cv H ⟨vs,e1,e2⟩
 exact⟨vs,e1,h.rvl H e2⟩
theorem bO.ref{b off:Nat}{hp:Hp}{x:AV}(h:hp b=some (.box x))(hx:x.pure):bO b hp (.ref b off) (.rptr x off):=by
 intro P c A μ fr tm' n a w cv H hv
 obtain⟨hd,e1,e2,rfl⟩:=hv
 obtain⟨hd',v,ty,f1,f2,f3,f4,f5,f6⟩:=H.box h
 rw[e1]at f1;cases f1
 exact⟨hd.blk,0,v,by simp,.inr ⟨hd,e1,e2,rfl⟩,RV.pure hx (f4.mono (dc.refl A w) (λb hb=>.inl hb) x (bv.refl _)),(RV.cells f3 f4).2,λp u hu=>f6 p u hu⟩
theorem bO.map{b:Nat}{kk:Option Nat}{hp:Hp}{ks:List MK}{vs:List AV}(h:hp b=some (.map kk ks vs))(hx:cI vs):bO b hp (.mref b) (.mp kk ks vs):=by
 intro P c A μ fr tm' n a w cv H hv
 obtain⟨hd,e1,e2,rfl⟩:=hv
 obtain⟨hd',ents,clock,g1,g2,g3,g4,g5,g6⟩:=H.mapBlk h
 rw[e1]at g1;cases g1
 exact⟨_,ents,clock,rfl,.inr ⟨hd,e1,e2,rfl⟩,g3,g4,RVL.pure hx (RVL.mono (dc.refl A w) (λb hb=>.inl hb) vs (bv.refl _) g5),g6⟩
theorem bO.vec{b kk:Nat}{hp:Hp}{es:List AV}(h:hp b=some (.vec kk es))(hx:cI es):bO b hp (.vec b) (.sl kk es false):=by
 intro P c A μ fr tm' n a w cv H hv
 obtain⟨hd,e1,rfl⟩:=hv
 obtain⟨hd',f1,f2,f3⟩:=H.vec h
 rw[e1]at f1;cases f1
 rcases f3 with⟨rfl,a',f3⟩|⟨g1,g2,g4,g5,C,ty,vs,k1,k2,k3,k4,k5,k6,k7⟩
 ·rw[Hd.val,f3]
  exact .inl ⟨rfl,a',rfl⟩
 ·have hv:hd.val=.slice (some ⟨hd.blk,0,none⟩) es.length hd.cap:=by rw[Hd.val,g1,g2]
  rw[hv]
  refine .inr ⟨hd.blk,0,hd.cap,vs,rfl,.inr ⟨hd,e1,g1,rfl⟩,by omega,g5,(λh=>by cases h),RVL.pure hx (RVL.mono (dc.refl A w) (λb hb=>.inl hb) es (bv.refl _) k2),λv hv=>⟨k4 v hv,?_⟩,λp u hu=>by rw[Nat.zero_add];exact k7 p u hu,k3⟩
  obtain⟨i,hi⟩:=List.mem_iff_getElem?.1 hv
  have hlt:i<es.length:=by rw[k2.length];exact(List.getElem?_eq_some_iff.1 hi).1
  have hxe:es[i]?=some es[i]:=List.getElem?_eq_getElem hlt
  exact(RV.cells (k3 _ (List.getElem_mem hlt)) (k2.get2 hxe hi)).2
theorem aQ.give(b:Nat)(hnx:s'.nx=s.nx)(h1:∀t,s'.tm t=.unk∨bO b s.hp (s.tm t) (s'.tm t))
  (h2:∀b' x,s'.hp b'=some x→b'≠b∧(s.hp b'=some x∨∃y z,s.hp b'=some (.box y)∧x=.box z∧z.solid=true∧bO b s.hp y z)) (hb:s.hp b≠none):aQ k n s s':=by
 rintro P c a w ⟨h0,A,μ,H⟩
 have hle:∀k,A k→A k∨∃hd,μ b=some hd∧hd.emp=none∧hd.blk=k:=λ_ h=>.inl h
 have hlive:∃x hd,s.hp b=some x∧μ b=some hd∧(hd.emp=none→¬A hd.blk∧hd.blk<w.heap.size∧(c.own hd.blk∨c.w.heap.size≤hd.blk)):=by
  cases hx:s.hp b with
  | none=>exact absurd hx hb
  | some x=>obtain⟨hd,e1,_,e3⟩:=H.blk b x hx;exact⟨x,hd,rfl,e1,e3⟩
 obtain⟨xb,hdb,hxb,hmb,hpb⟩:=hlive
 have hsub:∀b' x,s'.hp b'=some x→b'≠b∧∃y,s.hp b'=some y:=by
  intro b' x hx
  obtain⟨e1,e2|⟨y,z,e2,_⟩⟩:=h2 b' x hx
  ·exact⟨e1,_,e2⟩
  ·exact⟨e1,_,e2⟩
 refine⟨h0,λk=>A k∨∃hd,μ b=some hd∧hd.emp=none∧hd.blk=k,μ,λt=>?_,H.n,H.df,λb' x hx=>?_,λb1 b2 x x' hd hd' hx hx'=>?_,?_,λb' hb'=>?_,H.keep,λb' hb'=>.inl (H.A0 b' hb'),?_,H.mu⟩
 ·rcases h1 t with h|h
  ·rw[h];trivial
  ·exact h P c A μ _ s.tm n a w _ H (H.tm t)
 ·obtain⟨hne,y,hy⟩:=hsub b' x hx
  obtain⟨hd,g1,g2,g3⟩:=H.blk b' y hy
  refine⟨hd,g1,?_,λhe=>⟨?_,(g3 he).2⟩⟩
  ·rcases(h2 b' x hx).2 with e|⟨yy,z,e1,e2,e3,e4⟩
   ·rw[hy]at e;cases e
    exact g2.mono (dc.refl A w) hle (bv.refl _) (λ_=>rfl)
   ·rw[hy]at e1;cases e1
    subst e2
    obtain⟨q1,q2,v,ty,q3,q4⟩:=g2
    exact⟨q1,e3,v,ty,e4 P c A μ _ s.tm n a w v H q3,q4⟩
  ·rintro(h|⟨hd2,k1,k2,k3⟩)
   ·exact(g3 he).1 h
   ·exact hne (H.inj _ _ _ _ _ _ hy hxb g1 k1 he k2 k3.symm)
 ·obtain⟨_,y,hy⟩:=hsub b1 x hx
  obtain⟨_,y',hy'⟩:=hsub b2 x' hx'
  exact H.inj _ _ _ _ _ _ hy hy'
 ·refine H.lt.mono (dc.refl A w) hle ?_
  rintro k (h|⟨hd,k1,k2,rfl⟩)
  ·exact H.lt k h
  ·rw[hmb]at k1;cases k1;exact(hpb k2).2.1
 ·rw[hnx]at hb'
  obtain⟨q1,q2⟩:=H.fr b' hb'
  refine⟨q1,?_⟩
  cases hx:s'.hp b' with
  | none=>rfl
  | some x=>obtain⟨_,y,hy⟩:=hsub b' x hx;rw[q2]at hy;cases hy
 ·rintro k (h|⟨hd,k1,k2,rfl⟩)
  ·exact H.A1 k h
  ·rw[hmb]at k1;cases k1;exact .inr (hpb k2).2.2
end
def It(P:Program):ResultVar→Option AR
 | .tmp t=>some (.tmp t)
 | .cell t ty=>match P.underlying ty,sizeOf? P ty with
  | some _,some s=>some (.cell t (eB P ty) s)
  | _,_=>none
def FY(P:Program)(fn:Func):Option AF:=match fn.body with
  | none=>none
  | some c=>match fn.results.toList.mapM (It P)with
    | none=>none
    | some rs=>some { n:=fn.ntmps,np:=fn.params.size+fn.nfree,res:=rs,body:=eZ P fn.ntmps c }
def Qg(s:S3):AR→Option AV
 | .tmp t=>some (s.tm t)
 | .cell t agg size=>match s.tm t with
  | .ref b off=>match s.hp b with
   | some (.box y)=>if off+size≤y.cells.length∧(agg=false→size=1)∧y.solid=true then some (eU y off size agg)else none
   | _=>none
  | _=>none
def kp(s:S3):List AR→Option (List AV)
 | []=>some []
 | r::rs=>match Qg s r,kp s rs with
  | some x,some xs=>some (x::xs)
  | _,_=>none
def o3:List AV→AV
 | [x]=>x
 | xs=>.tup xs
def Re(n:Nat)(args:List AV)(h:List Blk):S3:=⟨λt=>args.getD t .unk,bS (h.map some),h.length⟩
section
variable {P : Program} {c : Ctx} {A : Nat → Prop} {μ : Mu} {fr : Nat → Prop} {n : Nat} {a : Act} {w : World}
def K3(tmps:Array Value):ResultVar→Sem Value
 | .tmp t=>pure (tmps.getD t undef)
 | .cell b t=>do loadVar t (←asAddr (tmps.getD b undef))
theorem A6(fn:Func)(tmps:Array Value):results fn tmps=(do let vs ←fn.results.mapM (K3 tmps);pure (if h:vs.size=1 then vs[0]else .tuple vs)):=by
 unfold results
 congr 1
theorem K5{s:S3}(H:aI P c A μ fr s.tm s.hp n a w){r:ResultVar}{ar:AR}(hr:It P r=some ar){x:AV}(hx:Qg s ar=some x) :
  ∃v,(K3 a.tmps r).run P w=.ok v w∧RV w A x μ v:=by
 cases r with
 | tmp t =>
  simp only[It,Option.some.injEq]at hr
  subst hr
  simp only[Qg,Option.some.injEq]at hx
  subst hx
  exact⟨_,rfl,H.tm t⟩
 | cell b t =>
  simp only[It]at hr
  split at hr
  case h_2=>cases hr
  rename_i d sz hu hs
  cases hr
  simp only[Qg]at hx
  split at hx
  case h_2=>cases hx
  rename_i bb off htm
  split at hx
  case h_2=>cases hx
  rename_i y hy
  split at hx
  case isFalse=>cases hx
  rename_i hok
  cases hx
  have hv:=H.tm b
  rw[htm]at hv
  obtain⟨hd,e1,e2,e3⟩:=hv
  obtain⟨hd',v,ty,f1,f2,f3,f4,f5,f6⟩:=H.box hy
  rw[e1]at f1;cases f1
  obtain⟨cv,g1,g2⟩:=jt hu hs (off:=off) f4 ⟨hok.2.2,hok.1,hok.2.1⟩ f6
  refine⟨cv,?_,g2⟩
  simp only[K3,e3,asAddr,Sem.run_bind,Sem.run_pure,Result.andThen_ok]
  rw[Nat.zero_add]at g1
  exact g1
theorem wK{s:S3}(H:aI P c A μ fr s.tm s.hp n a w):∀{rs:List ResultVar} {ars:List AR} {xs:List AV},rs.mapM (It P)=some ars→kp s ars=some xs →
  ∃vs,(rs.mapM (K3 a.tmps)).run P w=.ok vs w∧RVL w A xs μ vs
 | [],ars,xs,h1,h2=>by
  simp at h1;subst h1
  simp[kp]at h2;subst h2
  exact⟨[],by simp,rfl⟩
 | r::rs,ars,xs,h1,h2=>by
  rw[List.mapM_cons]at h1
  simp only[Option.pure_def,Option.bind_eq_bind,Option.bind_eq_some_iff]at h1
  obtain⟨ar,e1,ars',e2,e3⟩:=h1
  cases e3
  unfold kp at h2
  split at h2
  case h_2=>cases h2
  rename_i x xs' g1 g2
  cases h2
  obtain⟨v,q1,q2⟩:=K5 H e1 g1
  obtain⟨vs,q3,q4⟩:=wK H e2 g2
  refine⟨v::vs,?_,v,vs,rfl,q2,q4⟩
  rw[List.mapM_cons]
  simp only[Sem.run_bind]
  rw[q1]
  simp only[Result.andThen_ok]
  rw[q3]
  rfl
theorem wF{s:S3}{fn:Func}{ars:List AR}{xs:List AV}(H:aI P c A μ fr s.tm s.hp n a w)(h1:fn.results.toList.mapM (It P)=some ars)(h2:kp s ars=some xs) :
  ∃v,(results fn a.tmps).run P w=.ok v w∧RV w A (o3 xs) μ v:=by
 obtain⟨vs,e1,e2⟩:=wK H h1 h2
 have hl:=e2.length
 have hm:(fn.results.mapM (K3 a.tmps)).run P w=.ok vs.toArray w:=by
  rw[Array.mapM_eq_mapM_toList]
  simp only[Sem.run_map]
  rw[e1]
  rfl
 rw[A6,Sem.run_bind,hm]
 simp only[Result.andThen_ok,Sem.run_pure]
 refine⟨_,rfl,?_⟩
 match vs,xs,e2,hl with
 | [],[],e2,_=>exact⟨[],by simp,rfl⟩
 | [v],[x],⟨v',vs',h0,h3,_⟩,_=>cases h0;simpa[o3]using h3
 | v::u::vs,x::y::xs,e2,_ =>
  refine⟨v::u::vs,?_,e2⟩
  simp
end
def fin(k n:Nat)(res:List AR)(r:AV)(h':List (Option Blk)):X→S3→Prop
 | .exit _,_=>False
 | _,s=>∃s',aQ k n s s'∧(∃xs,kp s' res=some xs∧o3 xs=r)∧∀b x,bS h' b=some x→s'.hp b=some x
end Go.Am
namespace Go.Am
def oV:List AV→Nat→(Nat→AV)
 | [],_=>λ_=>.unk
 | x::xs,k=>upd (oV xs (k+1)) k x
def ro:List Blk→Nat→Hp
 | [],_=>λ_=>none
 | x::xs,k=>upd (ro xs (k+1)) k (some x)
theorem xK:∀(xs:List AV) (k t:Nat),oV xs k t=if k≤t then xs.getD (t-k) .unk else .unk
 | [],k,t=>by simp[oV]
 | x::xs,k,t=>by
  rw[oV]
  by_cases h:t=k
  ·subst h;simp[upd]
  ·rw[aD _ _ h,xK xs (k+1) t]
   by_cases h1:k≤t
   ·have:t-k=(t-(k+1))+1:=by omega
    rw[if_pos h1,if_pos (by omega),this];rfl
   ·rw[if_neg h1,if_neg (by omega)]
theorem xL:∀(xs:List Blk) (k t:Nat),ro xs k t=if k≤t then xs[t-k]? else none
 | [],k,t=>by simp[ro]
 | x::xs,k,t=>by
  rw[ro]
  by_cases h:t=k
  ·subst h;simp[upd]
  ·rw[aD _ _ h,xL xs (k+1) t]
   by_cases h1:k≤t
   ·have:t-k=(t-(k+1))+1:=by omega
    rw[if_pos h1,if_pos (by omega),this];rfl
   ·rw[if_neg h1,if_neg (by omega)]
theorem Fi(n:Nat)(args:List AV)(h:List Blk):Re n args h=⟨oV args 0,ro h 0,h.length⟩:=by
 unfold Re
 congr 1
 ·funext t;rw[xK];simp
 ·funext t;rw[xL];simp[bS];cases h[t]?<;>rfl
mutual
def AV.ok:AV→Prop
  | .val v=>aK v
  | .agg cs=>okL cs
  | .tup xs=>okL xs
  | .func _ caps=>okL caps
  | .sl _ es _=>es.length≤maxLen∧okL es
  | .rptr x _=>x.ok
  | .mp kk ks vs=>ks.Nodup∧(∀q∈ks,q.fits kk)∧vs.length=ks.length∧okL vs
  | _=>True
def okL:List AV→Prop
  | []=>True
  | x::xs=>x.ok∧okL xs
end
section
variable {w : World} {A : Nat → Prop}
mutual
theorem RV.ok:∀{x:AV} {μ:Mu} {v:Value},RV w A x μ v→x.ok
  | .val _,_,_,h=>h.2
  | .agg cs,_,_,⟨vs,h1,h2,h3⟩=>RVL.ok h2
  | .tup xs,_,_,⟨vs,h1,h2⟩=>RVL.ok h2
  | .func f caps,_,_,⟨vs,h1,h2⟩=>RVL.ok h2
  | .ref _ _,_,_,_=>trivial
  | .eref _ _ _,_,_,_=>trivial
  | .rptr x _,_,_,⟨blk,o,v,h1,h2,h3,h4⟩=>(RV.ok h3:x.ok)
  | .vec _,_,_,_=>trivial
  | .vsub _ _ _,_,_,_=>trivial
  | .asub _ _ _ _,_,_,_=>trivial
  | .sl k es full,_,_,h=>by
      rcases h with⟨h1,_⟩|⟨blk,off,cap,vs,h1,h2,h3,h4,h5,h6,h7⟩
      · subst h1;exact⟨Nat.zero_le _,trivial⟩
      · exact⟨by omega,RVL.ok h6⟩
  | .mref _,_,_,_=>trivial
  | .mp kk ks vs,_,_,⟨blk,ents,clock,h1,h2,h3,h4,h5,h6⟩=>⟨h4.nodup,h4.2.1,by rw[h5.length,List.length_map,Array.length_toList,h4.len],RVL.ok h5⟩
  | .unk,_,_,_=>trivial
theorem RVL.ok:∀{xs:List AV} {μ:Mu} {vs:List Value},RVL w A xs μ vs→okL xs
  | [],_,_,_=>trivial
  | x::xs,_,_,⟨v,vs',h1,h2,h3⟩=>⟨RV.ok h2,RVL.ok h3⟩
end
end
theorem qP:∀{xs:List AV},cI xs↔∀x∈xs,x.pure
 | []=>by simp[cI]
 | x::xs=>by simp[cI,qP (xs:=xs)]
theorem ao.of_ok{P:Program}{f:FuncId}{args:List AV}{r:AV}(h:okL args→ao P f args r):ao P f args r:=
 λw A cargs h1 h2=>h (RVL.ok h2) w A cargs h1 h2
section
variable {P : Program} {k n : Nat} {Q : X → S3 → Prop} {tm : Nat → AV} {hp : Hp} {nx : Nat}
theorem AWP.seq'{x y:AC}(h:AWP P k n x (DP (AWP P k n y Q) Q) ⟨tm,hp,nx⟩):AWP P k n (.seq x y) Q ⟨tm,hp,nx⟩:=AWP.seq h
theorem AWP.reg'{ops:List aO}(h:∀K:(Nat→AV)→Hp→Nat→Prop,(∀t h x,Q .normal ⟨t,h,x⟩→K t h x)→evT P n ops nx ⟨tm,hp⟩ (λs f=>K s.tm s.hp f)):AWP P k n (.reg ops) Q ⟨tm,hp,nx⟩:=
 AWP.reg (h (λt h x=>Q .normal ⟨t,h,x⟩) (λ_ _ _ h=>h))
end
theorem cU{α:Type}(f:Nat→α)(t:Nat)(v:α)(x:Nat):upd f t v x=if x=t then v else f x:=rfl
theorem evO_t(tm:Nat→AV)(t:Nat):evO tm (.t t)=tm t:=rfl
theorem evO_c(tm:Nat→AV)(x:AV):evO tm (.c x)=x:=rfl
theorem He(d:Nat)(v:AV)(tm:Nat→AV):aY (some d) v tm=upd tm d v:=rfl
theorem Hf(v:AV)(tm:Nat→AV):aY none v tm=tm:=rfl
theorem II{n:Int}(h:-9223372036854775808≤n∧n≤9223372036854775807):IntKind.i64.wrap n=n:=IntWalk.i64_in n h
end Go.Am
namespace Go.Am
abbrev AOp.isCall:AOp→Bool
 | .call _ _=>true
 | .isNil _ _ _=>true
 | .lit _ _ _ _=>true
 | _=>false
section
variable {P : Program} {k n : Nat} {tm : Nat → AV} {hp : Hp}
theorem Ui{α:Type}(f:Nat→α)(t:Nat)(v:α)(x:Nat):upd f t v x=if x=t then v else f x:=id rfl
def goT(P:Program)(n:Nat)(o:Out)(d:Option Nat)(os:List aO)(f:Nat)(tm:Nat→AV)(hp:Hp)(K:S2→Nat→Prop):Prop:=
 o.c∧evT P n os (f+16) ⟨aY d o.v tm,bD o hp⟩ K
theorem RI{f:Nat}{K:S2→Nat→Prop}:evT P n [] f ⟨tm,hp⟩ K=K ⟨tm,hp⟩ f:=rfl
theorem Wo{d:Option Nat}{op:AOp}{os:List aO}{f:Nat}{K:S2→Nat→Prop}(h:op.isCall=false) :
  evT P n (⟨d,op,none⟩::os) f ⟨tm,hp⟩ K=goT P n (evA op f (evO tm) hp) d os f tm hp K:=by
 cases op<;>first|rfl|simp[AOp.isCall]at h
theorem HQ{d:Option Nat}{ptr ne:Bool}{x:AO}{os:List aO}{f:Nat}{K:S2→Nat→Prop} :
  evT P n (⟨d,.isNil ptr ne x,none⟩::os) f ⟨tm,hp⟩ K=(kz ptr (evO tm x)∧∀t,tI hp (evO tm x) t→evT P n os (f+16) ⟨aY d (.bool (t != ne)) tm,hp⟩ K):=rfl
theorem Wh{c:Prop}{v:AV}{d:Option Nat}{os:List aO}{f:Nat}{K:S2→Nat→Prop}{rm:Option Nat}{ad:Option (Nat×Blk)} :
    goT P n { c:=c,v:=v,rm:=rm,ad:=ad } d os f tm hp K=(c∧evT P n os (f+16) ⟨aY d v tm,bD { c:=True,rm:=rm,ad:=ad } hp⟩ K):=rfl
theorem Wp{d:Option Nat}{op:AOp}{os:List aO}{f g:Nat}{want:Bool}{K:S2→Nat→Prop}(h:tm g=.val (.bool want)) :
  evT P n (⟨d,op,some (g,want)⟩::os) f ⟨tm,hp⟩ K=evT P n (⟨d,op,none⟩::os) f ⟨tm,hp⟩ K:=by
 apply propext
 constructor
 ·rintro⟨t,h0,h1,_⟩
  rw[show(S2.mk tm hp).tm g=tm g from rfl,h]at h0
  cases h0
  exact h1 rfl
 ·exact λH=>⟨some want,by rw[show(S2.mk tm hp).tm g=tm g from rfl,h];rfl,λ_=>H,λe=>absurd rfl e⟩
theorem Wq{d:Option Nat}{op:AOp}{os:List aO}{f g:Nat}{want:Bool}{K:S2→Nat→Prop}(h:tm g=.tup []) :
  evT P n (⟨d,op,some (g,want)⟩::os) f ⟨tm,hp⟩ K=evT P n os (f+16) ⟨aY d (.tup []) tm,hp⟩ K:=by
 apply propext
 constructor
 ·rintro⟨t,h0,_,h1⟩
  rw[show(S2.mk tm hp).tm g=tm g from rfl,h]at h0
  cases h0
  exact h1 (by simp)
 ·exact λH=>⟨none,by rw[show(S2.mk tm hp).tm g=tm g from rfl,h];rfl,λe=>by simp at e,λ_=>H⟩
theorem Wr{d:Option Nat}{op:AOp}{os:List aO}{f g:Nat}{want:Bool}{K:S2→Nat→Prop}(h:tm g=.val (.bool (!want))) :
  evT P n (⟨d,op,some (g,want)⟩::os) f ⟨tm,hp⟩ K=evT P n os (f+16) ⟨aY d (.tup []) tm,hp⟩ K:=by
 apply propext
 constructor
 ·rintro⟨t,h0,_,h1⟩
  rw[show(S2.mk tm hp).tm g=tm g from rfl,h]at h0
  cases h0
  exact h1 (by cases want<;>simp)
 ·exact λH=>⟨some (!want),by rw[show(S2.mk tm hp).tm g=tm g from rfl,h];rfl,λe=>by cases want<;>simp at e,λ_=>H⟩
theorem Nc{d:Option Nat}{g:AO}{xs:List AO}{os:List aO}{f:Nat}{K:S2→Nat→Prop}{fid:FuncId}{caps args:List AV}{foot:List Nat}{v:AV}{e:Eff}
  (hg:evO tm g=.func fid caps) (hx:xs.map (evO tm)++caps=args) (hc:bE P n fid args f hp foot v e) (hK:evT P n os (f+16) ⟨aY d v tm,c8 e hp⟩ K) :
  evT P n (⟨d,.call g xs,none⟩::os) f ⟨tm,hp⟩ K:=
 ⟨fid,caps,foot,v,e,hg,.inl (by rw[←hx]at hc;exact hc),hK⟩
def goD(P:Program)(n:Nat)(o:Out)(rd:List Nat)(d:Option Nat)(os:List aO)(f:Nat)(tm:Nat→AV)(hp:Hp)(lg:Log)(K:S2→Nat→Log→Prop):Prop:=
 o.c∧evD P n os (f+16) ⟨aY d o.v tm,bD o hp⟩ (lg++[(rd,wrH o)]) K
theorem RJ{f:Nat}{lg:Log}{K:S2→Nat→Log→Prop}:evD P n [] f ⟨tm,hp⟩ lg K=K ⟨tm,hp⟩ f lg:=rfl
theorem Ws{d:Option Nat}{op:AOp}{os:List aO}{f:Nat}{lg:Log}{K:S2→Nat→Log→Prop}(h:op.isCall=false) :
  evD P n (⟨d,op,none⟩::os) f ⟨tm,hp⟩ lg K=goD P n (evA op f (evO tm) hp) (rdH op tm) d os f tm hp lg K:=by
 cases op<;>first|rfl|simp[AOp.isCall]at h
theorem Wi{c:Prop}{v:AV}{d:Option Nat}{os:List aO}{f:Nat}{lg:Log}{rd:List Nat}{K:S2→Nat→Log→Prop}{rm:Option Nat}{ad:Option (Nat×Blk)} :
    goD P n { c:=c,v:=v,rm:=rm,ad:=ad } rd d os f tm hp lg K=(c∧evD P n os (f+16) ⟨aY d v tm,bD { c:=True,rm:=rm,ad:=ad } hp⟩ (lg++[(rd,rm.toList++(ad.toList.map (·.1)))]) K):=rfl
theorem Wt{d:Option Nat}{op:AOp}{os:List aO}{f g:Nat}{want:Bool}{lg:Log}{K:S2→Nat→Log→Prop}(h:tm g=.val (.bool want)) :
  evD P n (⟨d,op,some (g,want)⟩::os) f ⟨tm,hp⟩ lg K=evD P n (⟨d,op,none⟩::os) f ⟨tm,hp⟩ lg K:=by
 apply propext
 constructor
 ·rintro⟨t,h0,h1,_⟩
  rw[show(S2.mk tm hp).tm g=tm g from rfl,h]at h0
  cases h0
  exact h1 rfl
 ·exact λH=>⟨some want,by rw[show(S2.mk tm hp).tm g=tm g from rfl,h];rfl,λ_=>H,λe=>absurd rfl e⟩
theorem Wu{d:Option Nat}{op:AOp}{os:List aO}{f g:Nat}{want:Bool}{lg:Log}{K:S2→Nat→Log→Prop}(h:tm g=.tup []) :
  evD P n (⟨d,op,some (g,want)⟩::os) f ⟨tm,hp⟩ lg K=evD P n os (f+16) ⟨aY d (.tup []) tm,hp⟩ (lg++[([],[])]) K:=by
 apply propext
 constructor
 ·rintro⟨t,h0,_,h1⟩
  rw[show(S2.mk tm hp).tm g=tm g from rfl,h]at h0
  cases h0
  exact h1 (by simp)
 ·exact λH=>⟨none,by rw[show(S2.mk tm hp).tm g=tm g from rfl,h];rfl,λe=>by simp at e,λ_=>H⟩
theorem Wv{d:Option Nat}{op:AOp}{os:List aO}{f g:Nat}{want:Bool}{lg:Log}{K:S2→Nat→Log→Prop}(h:tm g=.val (.bool (!want))) :
  evD P n (⟨d,op,some (g,want)⟩::os) f ⟨tm,hp⟩ lg K=evD P n os (f+16) ⟨aY d (.tup []) tm,hp⟩ (lg++[([],[])]) K:=by
 apply propext
 constructor
 ·rintro⟨t,h0,_,h1⟩
  rw[show(S2.mk tm hp).tm g=tm g from rfl,h]at h0
  cases h0
  exact h1 (by cases want<;>simp)
 ·exact λH=>⟨some (!want),by rw[show(S2.mk tm hp).tm g=tm g from rfl,h];rfl,λe=>by cases want<;>simp at e,λ_=>H⟩
theorem Ba(x y:AV):ot true x y=x:=by
 unfold ot;split<;>simp
theorem wQ(x y:AV):ot false x y=y:=by
 unfold ot;split<;>simp
def rZ(hp:Hp):Nat→List (Option Blk)→Prop
 | _,[]=>True
 | i,none::l=>rZ hp (i+1) l
 | i,some x::l=>hp i=some x∧rZ hp (i+1) l
theorem rZ.get:∀{l:List (Option Blk)} {i:Nat},rZ hp i l→∀{b x},l[b]?=some (some x)→hp (i+b)=some x
 | none::l,i,h,0,x,e=>by simp at e
 | some y::l,i,h,0,x,e=>by simp at e;subst e;exact h.1
 | none::l,i,h,b+1,x,e=>by
   have:=rZ.get (l:=l) h (b:=b) (x:=x) (by simpa using e)
   rw[←this];congr 1;omega
 | some y::l,i,h,b+1,x,e=>by
   have:=rZ.get (l:=l) h.2 (b:=b) (x:=x) (by simpa using e)
   rw[←this];congr 1;omega
def dO:List (Nat×AV)→Nat→AV
 | [],_=>.unk
 | (t,x)::l,u=>if u=t then x else dO l u
def ka(hp:Hp)(bs:List Nat)(m:Nat):Nat→List (Option Blk)→Prop
 | _,[]=>True
 | i,none::l=>ka hp bs m (i+1) l
 | i,some x::l=>(hp (bs.getD i 0)=some (x.ren λi=>bs.getD i 0)∧x.bel m)∧ka hp bs m (i+1) l
theorem ka.get{bs:List Nat}{m:Nat}:∀{l:List (Option Blk)} {i:Nat},ka hp bs m i l→∀{b x},l[b]?=some (some x)→hp (bs.getD (i+b) 0)=some (x.ren λi=>bs.getD i 0)∧x.bel m
 | none::l,i,h,0,x,e=>by simp at e
 | some y::l,i,h,0,x,e=>by simp at e;subst e;exact h.1
 | none::l,i,h,b+1,x,e=>by
   have:=ka.get (l:=l) h (b:=b) (x:=x) (by simpa using e)
   rw[show i+(b+1)=i+1+b by omega];exact this
 | some y::l,i,h,b+1,x,e=>by
   have:=ka.get (l:=l) h.2 (b:=b) (x:=x) (by simpa using e)
   rw[show i+(b+1)=i+1+b by omega];exact this
end
end Go.Am
namespace Go.Am
mutual
theorem AV.bel_pure{k:Nat}:∀{x:AV},x.pure→x.bel k
  | .agg cs,h=>bN (xs:=cs) h
  | .tup xs,h=>bN (xs:=xs) h
  | .func f caps,h=>bN (xs:=caps) h
  | .ref _ _,h=>h.elim
  | .eref _ _ _,h=>h.elim
  | .vec _,h=>h.elim
  | .vsub _ _ _,h=>h.elim
  | .asub _ _ _ _,h=>h.elim
  | .val _,_=>trivial
  | .rptr _ _,_=>trivial
  | .sl _ _ _,_=>trivial
  | .mref _,h=>h.elim
  | .mp _ _ _,_=>trivial
  | .unk,_=>trivial
theorem bN{k:Nat}:∀{xs:List AV},cI xs→fZ k xs
  | [],_=>trivial
  | x::xs,h=>⟨AV.bel_pure h.1,bN h.2⟩
end
def Blk.ok:Blk→Prop
 | .box x=>x.ok
 | .vec _ es=>es.length≤maxLen∧okL es
 | .row _ es len cap=>es.length≤len∧len≤cap∧cap≤maxLen∧okL es
 | .map kk ks vs=>ks.Nodup∧(∀q∈ks,q.fits kk)∧vs.length=ks.length∧okL vs
theorem eC.ok{w:World}{A:Nat→Prop}{μ:Mu}{hd:Hd}{x:Blk}(h:eC w A μ hd x):x.ok:=by
 cases x with
 | box x=>obtain⟨_,_,v,ty,h1,_⟩:=h;exact RV.ok h1
 | vec k es =>
  obtain⟨_,h|⟨h1,h2,h3,h4,C,ty,vs,h5,h6,_⟩⟩:=h
  ·obtain⟨rfl,_⟩:=h;exact⟨Nat.zero_le _,trivial⟩
  ·exact⟨by omega,RVL.ok h6⟩
 | row k es len cap =>
  obtain⟨_,_,_,_,h1,h2,h3,C,ty,vs,_,h6,_⟩:=h
  exact⟨h1,h2,h3,RVL.ok h6⟩
 | map kk ks vs =>
  obtain⟨_,ents,clock,h3,h4,h5,h6⟩:=h
  exact⟨h4.nodup,h4.2.1,by rw[h5.length,List.length_map,Array.length_toList,h4.len],RVL.ok h5⟩
theorem bl.of_okh{P:Program}{f:FuncId}{args:List AV}{hb:List Blk}{r:AV}{h':List (Option Blk)}(h:okL args→(∀x∈hb,x.ok)→bl P f args hb r h'):bl P f args hb r h':=by
 intro w A μ cargs h1 h2 h3
 refine h (RVL.ok h3) (λx hx=>?_) w A μ cargs h1 h2 h3
 obtain⟨i,hi,e⟩:=List.mem_iff_getElem.mp hx
 obtain⟨hd,_,g,_⟩:=h1.blk i x (gO.mpr (by rw[List.getElem?_eq_getElem hi,e]))
 exact g.ok
section
variable {P : Program} {k n : Nat} {tm : Nat → AV} {hp : Hp} {fid : FuncId}
theorem bE.own{args:List AV}{x x' r:AV}{b f off:Nat}(hs:bl P fid (.ref 0 off::args) [.box x] r [some (.box x')])(hf:vD P fid)(h1:cI args)(h2:x.pure)(h3:x'.pure)(h4:r.pure)
  (hb:hp b=some (.box x)):bE P n fid (.ref b off::args) f hp [b] r (fY [(b,some (.box x'))]):=by
 have key:=bE.hand (n:=n) (f:=f) (hp:=hp) hf hs [b] rfl (by simp) ⟨Nat.zero_lt_one,bN h1⟩ (λi c y e1 e2=>by
  cases i with
  | succ i=>simp at e1
  | zero =>
   simp at e1 e2
   subst e1;subst e2
   exact⟨AV.bel_pure h2,by rw[hb];simp only[Blk.ren,AV.ren_pure _ h2]⟩) (Nat.le_refl _) (by simp) (AV.bel_pure h4) (λy hy=>by simp at hy;subst hy;exact AV.bel_pure h3)
 have e1:bi [b] f 0=b:=by simp[bi]
 rw[d6,bF _ h1,AV.ren_pure _ h4,AV.ren,e1]at key
 have e2:eO [b] f [some (Blk.box x')]=fY [(b,some (.box x'))]:=by
  simp[eO,List.zipIdx,e1,Blk.ren,AV.ren_pure _ h3]
 rwa [e2]at key
theorem HE(b:Nat)(x:Option Blk)(hp:Hp):c8 (fY [(b,x)]) hp=upd hp b x:=by rw[BH,HF]
theorem kN{d:Option Nat}{g:AO}{xs:List AO}{os:List aO}{f:Nat}{K:S2→Nat→Prop}{args:List AV}{x x' r:AV}{b off:Nat}(hs:bl P fid (.ref 0 off::args) [.box x] r [some (.box x')])(hf:vD P fid)
  (h1:cI args) (h2:x.pure) (h3:x'.pure) (h4:r.pure) (hg:evO tm g=.func fid []) (hx:xs.map (evO tm)=.ref b off::args) (hb:hp b=some (.box x))
  (hK:evT P n os (f+16) ⟨aY d r tm,upd hp b (some (.box x'))⟩ K):evT P n (⟨d,.call g xs,none⟩::os) f ⟨tm,hp⟩ K:=
 Nc hg (by simpa using hx) (bE.own hs hf h1 h2 h3 h4 hb) (by rw[HE];exact hK)
end
end Go.Am
namespace Go.Am
def Old(w:World)(b:Nat):Prop:=b<w.heap.size
/-- A program that has none of the package variables that the layer knows. -/
def nI (P : Program) : Bool := (P.globalNamed "internal/strconv.uint64pow10").isNone
theorem J8{P:Program}(h:nI P=true){n:String}{k:IntKind}{zs:List Int}{g:Nat}(e1:Up n=some (k,zs))(e2:P.globalNamed n=some g):False:=by
 unfold Up at e1
 split at e1
 ·rename_i e;subst e;unfold nI at h;rw[e2]at h;cases h
 ·cases e1
theorem ao.below{P:Program}{f:FuncId}{args:List AV}{r:AV}(h:ao P f args r){w:World}(hG:LtOk P (Old w) w){cargs:List Value}(ha:RVL w (Old w) args cR cargs) :
  Calls P f cargs.toArray w λe w'=>∃v A',e=.returned v∧RV w' A' r cR v∧RowKit.Below w.heap.size w w':=
 (h w (Old w) cargs hG ha).mono λe w' ⟨v,A',h1,h2,h3,_⟩=>⟨v,A',h1,h2,⟨h3.os,h3.tape,h3.output,h3.size,λk hk=>h3.block k hk (λh=>h)⟩⟩
theorem ao.belowB{P:Program}{f:FuncId}{args:List AV}{b:Bool}(h:ao P f args (.bool b)){w:World}(hG:LtOk P (Old w) w){cargs:List Value}(ha:RVL w (Old w) args cR cargs) :
  Calls P f cargs.toArray w λe w'=>e=.returned (.bool b)∧RowKit.Below w.heap.size w w':=
 (h.below hG ha).mono λe w' ⟨v,A',h1,h2,h3⟩=>⟨by rw[h1,h2.1],h3⟩
theorem Addr.eta{w:World}{x:Addr}{v:Value}(h:w.cell? x=some v):x=⟨x.block,x.off,none⟩∧x.block<w.heap.size:=by
 unfold World.cell? at h
 split at h
 ·rename_i c ty z e
  have hs:x.spot=none:=by
   cases hx:x.spot with
   | none=>rfl
   | some s=>rw[hx]at h;simp at h
  refine⟨by cases x;simp_all,?_⟩
  rcases Nat.lt_or_ge x.block w.heap.size with g|g
  ·exact g
  ·rw[Array.getElem?_eq_none g]at e;cases e
 ·cases h
theorem RV.string{w:World}{A:Nat→Prop}{s:ByteArray}(h:s.size≤maxLen):RV w A (.str s) cR (.string s):=⟨rfl,h⟩
end Go.Am
namespace Go.Am
def Sub(x y:AV):Prop:=∀(w:World) (A:Nat→Prop) (μ:Mu) (v:Value),RV w A x μ v→RV w A y μ v
def fa:List AV→List AV→Prop
 | [],[]=>True
 | x::xs,y::ys=>Sub x y∧fa xs ys
 | _,_=>False
theorem Sub.refl{x:AV}:Sub x x:=λ_ _ _ _ h=>h
theorem fa.refl:∀{xs:List AV},fa xs xs
 | []=>trivial
 | _::_=>⟨Sub.refl,fa.refl⟩
theorem fa.rvl{w:World}{A:Nat→Prop}{μ:Mu}:∀{xs ys:List AV} {vs:List Value},fa xs ys→RVL w A xs μ vs→RVL w A ys μ vs
 | [],[],_,_,h=>h
 | x::xs,y::ys,_,hs,⟨v,vs',h1,h2,h3⟩=>⟨v,vs',h1,hs.1 w A μ v h2,fa.rvl hs.2 h3⟩
 | [],_::_,_,hs,_=>hs.elim
 | _::_,[],_,hs,_=>hs.elim
theorem Sub.sl{k k':Nat}{es:List AV}{full full':Bool}(h:k=k'∨es=[])(hf:full'=true→full=true):Sub (.sl k es full) (.sl k' es full'):=by
 intro w A μ v hv
 rcases hv with⟨h1,h2⟩|⟨blk,off,cap,vs,e1,e2,e3,e4,e5,e6,e7,e8⟩
 ·exact .inl ⟨h1,h2⟩
 ·refine .inr ⟨blk,off,cap,vs,e1,e2,e3,e4,λh=>e5 (hf h),e6,λu hu=>?_,e8⟩
  rcases h with h|h
  ·rw[←h];exact e7 u hu
  ·subst h;simp[RVL]at e6;subst e6;simp at hu
theorem Sub.agg{xs ys:List AV}(h:fa xs ys):Sub (.agg xs) (.agg ys):=λw A μ v ⟨vs,h1,h2,h3⟩=>⟨vs,h1,h.rvl h2,h3⟩
theorem Sub.tup{xs ys:List AV}(h:fa xs ys):Sub (.tup xs) (.tup ys):=λw A μ v ⟨vs,h1,h2⟩=>⟨vs,h1,h.rvl h2⟩
theorem Sub.unk{x:AV}:Sub x .unk:=λ_ _ _ _ _=>trivial
theorem ao.sub{P:Program}{f:FuncId}{args args':List AV}{r r':AV}(h:ao P f args r)(ha:fa args' args)(hr:Sub r r'):ao P f args' r':=
 λw A cargs h1 h2=>(h w A cargs h1 (ha.rvl h2)).mono λe w' ⟨v,A',g1,g2,g3⟩=>⟨v,A',g1,hr _ _ _ _ g2,g3⟩
theorem aQ.sub{k n:Nat}{s s':S3}(h1:∀t,Sub (s.tm t) (s'.tm t))(h2:s'.hp=s.hp)(h3:s'.nx=s.nx):aQ k n s s':=by
 rintro P c a w ⟨h0,A,μ,H⟩
 refine⟨h0,A,μ,⟨λt=>h1 t _ _ _ _ (H.tm t),H.n,H.df,by rw[h2];exact H.blk,by rw[h2];exact H.inj,H.lt,by rw[h2,h3];exact H.fr,H.keep,H.A0,H.A1,H.mu⟩⟩
end Go.Am
namespace Go.Am
set_option linter.defProp false
theorem OM(n:Nat):(0=n+1)=False:=by simp
theorem Vl(n:Nat):(1=n+2)=False:=by simp
theorem Lz(n:Nat):(n+1=0)=False:=by simp
def stepU:=And.intro @RI (And.intro @Wo (And.intro @Wh (And.intro @Wp (And.intro @Wq (And.intro @Wr (And.intro @RJ (And.intro @Ws (And.intro @Wi (And.intro @Wt (And.intro @Wu (And.intro @Wv (And.intro @evO_t (And.intro @evO_c (And.intro @Ui (And.intro @He (And.intro @Hf (And.intro @true_and (And.intro @and_true (And.intro @Ba (And.intro @wQ (And.intro @Bool.not_true (And.intro @Bool.not_false (And.intro @List.flatMap_cons (And.intro @List.flatMap_nil (And.intro @Bool.false_eq_true (And.intro @List.append_nil (And.intro @List.nil_append (And.intro @List.cons_append (And.intro @Option.toList_some (And.intro @Option.toList_none (And.intro @List.map_cons (And.intro @List.map_nil (And.intro @List.length_cons (And.intro @List.length_nil (And.intro @Nat.le_refl (And.intro @List.take_zero (And.intro @List.drop_zero (And.intro @List.take_succ_cons (And.intro @List.drop_succ_cons (And.intro @List.take_nil (And.intro @List.drop_nil (And.intro @List.foldl_cons (And.intro @List.foldl_nil (And.intro @Option.isSome_none (And.intro @List.getD_cons_zero (And.intro @List.getD_cons_succ (And.intro @Option.map_some (And.intro @Option.map_none (And.intro @Nat.add_zero (And.intro @Nat.zero_add (And.intro @OM (And.intro @Vl (And.intro @Lz (And.intro @false_and (And.intro @and_false (And.intro @Bool.and_true (And.intro @Bool.and_false ((And.intro @beq_self_eq_true (And.intro @bne_self_eq_false (And.intro @Bool.true_and (And.intro @Bool.false_and (And.intro @Bool.or_false (And.intro @Bool.false_or (And.intro @Bool.true_or (And.intro @Bool.or_true (And.intro @Int.toNat_one (And.intro @Int.cast_ofNat_Int (And.intro @Int.sub_zero (And.intro @Int.toNat_zero (And.intro @Int.zero_le_ofNat (And.intro @Int.le_refl (And.intro @and_self (And.intro @Nat.zero_mul (And.intro @Nat.mul_one (And.intro @decide_true (And.intro @decide_false (And.intro @Option.getD_none (And.intro @Option.getD_some (And.intro @List.mem_cons (And.intro @List.not_mem_nil (And.intro @or_false (And.intro @true_or (((And.intro @false_implies (And.intro @List.mem_singleton (@HQ))))))))))))))))))))))))))))))))))))))))))))))))))))))))))))))))))))))))))))))))))))))))
def di:=@stepU.{0,0,0,0,0,0,0,0,0,0,0,0,0,0,0,0,0,0,0,0,0,0,0,0,0,0,0,0,0,0,0,0,0,0,0,0,0,0,0}
end Go.Am
namespace Go.Am
end Go.Am
namespace Go.Am
def hpL:Nat→List (Option Blk)→Nat→Option Blk
 | _,[],_=>none
 | i,x::l,b=>if b=i then x else hpL (i+1) l b
theorem VU(i:Nat)(x:Option Blk)(l:List (Option Blk))(b:Nat):hpL i (x::l) b=if b=i then x else hpL (i+1) l b:=rfl
theorem Rl(i b:Nat):hpL i [] b=none:=rfl
theorem Qf(t:Nat)(x:AV)(l:List (Nat×AV))(u:Nat):dO ((t,x)::l) u=if u=t then x else dO l u:=rfl
theorem K4(u:Nat):dO [] u=.unk:=rfl
theorem IH{a:Int}{b:Nat}(h:a=(b:Int))(h2:b≤9223372036854775807):IntKind.i64.wrap a=(b:Int):=by rw[h];exact IntWalk.i64_in _ (by omega)
theorem ug:∀(l:List (Option Blk)) (i b:Nat),hpL i l b=if i≤b then(l[b-i]?).join else none
 | [],i,b=>by simp[hpL]
 | x::l,i,b=>by
  rw[hpL]
  by_cases h:b=i
  ·subst h;simp
  ·rw[if_neg h,ug l (i+1) b]
   by_cases h1:i≤b
   ·have:b-i=(b-(i+1))+1:=by omega
    rw[if_pos h1,if_pos (by omega),this,List.getElem?_cons_succ]
   ·rw[if_neg h1,if_neg (by omega)]
theorem kF(l:List (Option Blk)):bS l=hpL 0 l:=by
 funext b;rw[ug];simp[bS]
section
variable {P : Program} {k n : Nat}
def IF(tm:Nat→AV)(bs:List Nat)(m:Nat):List (Nat×AV)→Prop
 | []=>True
 | (t,x)::l=>(tm t=x.ren (λi=>bs.getD i 0)∧x.bel m)∧IF tm bs m l
theorem IF.all{tm:Nat→AV}{bs:List Nat}{m:Nat}:∀{l:List (Nat×AV)},IF tm bs m l→∀p∈l,tm p.1=p.2.ren (λi=>bs.getD i 0)∧p.2.bel m
 | [],_,p,hp=>by simp at hp
 | (t,x)::l,h,p,hp=>by
  rcases List.mem_cons.mp hp with rfl|hp
  ·exact h.1
  ·exact IF.all h.2 p hp
theorem aQ.nf{tm:Nat→AV}{hp:Hp}{nx:Nat}(bs:List Nat)(ts:List (Nat×AV))(hs:List (Option Blk)){m:Nat}(h3:IF tm bs m ts)(h4:ka hp bs m 0 hs)
  (h5:bs.length=hs.length∧hs.length=m) (h6:bs.Nodup) (h7:∀b,b<k→bs.getD b 0=b) (h8:k≤m):aQ k n ⟨tm,hp,nx⟩ ⟨dO ts,hpL 0 hs,m⟩:=by
 obtain⟨h5,rfl⟩:=h5
 refine aQ.ren (λi=>bs.getD i 0) (λt=>?_) (λb x e=>?_) (λb b' e e' he=>?_) h7 h8
 ·show dO ts t=.unk∨_
  have h3:=h3.all
  induction ts with
  | nil=>exact .inl rfl
  | cons p l ih =>
   obtain⟨t',x⟩:=p
   show(if t=t' then x else dO l t)=.unk∨(tm t=(if t=t' then x else dO l t).ren _∧_)
   by_cases ht:t=t'
   ·subst ht
    have:=h3 (t,x) (by simp)
    simp only[dO,↓reduceIte]
    exact .inr this
   ·have:=ih (by assumption |> λ(h:IF _ _ _ ((t',x)::l))=>h.2) (λp hp=>h3 p (by simp[hp]))
    simp only[dO,if_neg ht]
    exact this
 ·rw[show(⟨dO ts,hpL 0 hs,hs.length⟩:S3).hp=bS hs from(kF hs).symm]at e
  have e:=cE.mp e
  have:=h4.get e
  have hb:b<hs.length:=(List.getElem?_eq_some_iff.mp e).1
  simp only[Nat.zero_add]at this
  exact⟨hb,this.1,this.2⟩
 ·rw[show(⟨dO ts,hpL 0 hs,hs.length⟩:S3).hp=bS hs from(kF hs).symm]at e e'
  have hb:∀{b},bS hs b≠none→b<hs.length:=by
   intro b e
   rcases Nat.lt_or_ge b hs.length with g|g
   ·exact g
   ·exact absurd (by simp[bS,List.getElem?_eq_none g]) e
  have h1:=hb e
  have h2':=hb e'
  have g1:b<bs.length:=by omega
  have g2:b'<bs.length:=by omega
  simp only[List.getD_eq_getElem?_getD,List.getElem?_eq_getElem g1,List.getElem?_eq_getElem g2,Option.getD_some]at he
  exact(List.getElem_inj h6).mp he
theorem AWP.loopS{Q:X→S3→Prop}{s:S3}{x:AC}{σ:Type}(st:σ→S3)(inv:σ→Prop)(μ:σ→Nat){i0:σ}(h0:inv i0)(hw:aQ k n s (st i0))
  (round:∀i,inv i→AWP P k n x (DP (λs'=>∃j,inv j∧μ j<μ i∧aQ k n s' (st j)) Q) (st i)):AWP P k n (.loop x) Q s:=by
 refine AWP.loop (λm s=>∃i,inv i∧m=μ i∧s=st i) ⟨_,hw,i0,h0,rfl,rfl⟩ ?_
 rintro m s ⟨i,hi,rfl,rfl⟩
 refine(round i hi).mono ?_
 intro e s hq
 cases e with
 | normal=>obtain⟨j,h1,h2,h3⟩:=hq;exact⟨_,_,h2,h3,j,h1,rfl,rfl⟩
 | exit id=>exact hq
 | ret=>exact hq
theorem RV.nilsl{w:World}{A:Nat→Prop}{μ:Mu}{kk:Nat}{v:Value}(h:RV w A (.sl kk [] true) μ v):∃a:Option Addr,v=.slice a 0 0:=by
 rcases h with⟨_,h⟩|⟨blk,off,cap,vs,e1,e2,e3,e4,e5,_⟩
 ·exact h
 ·have:=e5 rfl
  simp at this;subst this
  exact⟨_,e1⟩
theorem aQ.nilvec{tm:Nat→AV}{hp:Hp}{nx:Nat}(t0 kk k':Nat)(h:tm t0=.sl kk [] true)(hk:k≤nx):aQ k n ⟨tm,hp,nx⟩ ⟨upd tm t0 (.vec nx),upd hp nx (some (.vec k' [])),nx+1⟩:=by
 rintro P c a w ⟨h0,A,μ,H⟩
 obtain⟨ad,hv⟩:=RV.nilsl (by have:=H.tm t0;rw[show(⟨tm,hp,nx⟩:S3).tm t0=_ from h]at this;exact this)
 obtain⟨f1,f2⟩:μ nx=none∧hp nx=none:=H.fr nx (Nat.le_refl _)
 let hd:Hd:=⟨some ad,0,k',0,0⟩
 have hle:bv μ (upd μ nx (some hd)):=by
  intro b hd' e
  by_cases g:b=nx
  ·subst g;rw[f1]at e;cases e
  ·rw[aD _ _ g];exact e
 have key:=H.add nx f2 (upd μ nx (some hd)) hle (λb hb=>aD _ _ hb) hd (aq _ _ _) (.vec k' []) ⟨rfl,.inl ⟨rfl,rfl⟩⟩ (λe=>by cases e) (λ_ _ _ _ _ _ e=>by cases e)
 refine⟨h0,A,upd μ nx (some hd),⟨λt=>?_,key.n,key.df,key.blk,key.inj,key.lt,λb hb=>?_,key.keep,key.A0,key.A1,key.mu⟩⟩
 ·by_cases ht:t=t0
  ·subst ht
   show RV w A (upd tm t (.vec nx) t) _ _
   rw[aq]
   exact⟨hd,aq _ _ _,hv⟩
  ·show RV w A (upd tm t0 (.vec nx) t) _ _
   rw[aD _ _ ht]
   exact key.tm t
 ·have hb:nx+1≤b:=hb
  exact key.fr b ⟨show nx≤b by omega,by omega⟩
theorem RVL.setAt{w:World}{A:Nat→Prop}{μ:Mu}:∀{xs:List AV} {vs:List Value} {i:Nat} {y:AV} {v:Value},RVL w A xs μ vs→vs[i]?=some v→RV w A y μ v→RVL w A (xs.set i y) μ vs
 | [],vs,i,y,v,h,hi,hy=>h
 | z::xs,vs,0,y,v,⟨v',vs',e,h1,h2⟩,hi,hy=>by
  subst e;simp at hi;subst hi
  exact⟨_,_,rfl,hy,h2⟩
 | z::xs,vs,i+1,y,v,⟨v',vs',e,h1,h2⟩,hi,hy=>by
  subst e
  exact⟨_,_,rfl,h1,RVL.setAt h2 (by simpa using hi) hy⟩
theorem aQ.nilvecB{tm:Nat→AV}{hp:Hp}{nx:Nat}(b0 i kk k':Nat)(cs:List AV)(hb:hp b0=some (.box (.agg cs)))(h:cs[i]?=some (.sl kk [] true))(hk:k≤nx) :
  aQ k n ⟨tm,hp,nx⟩ ⟨tm,upd (upd hp b0 (some (.box (.agg (cs.set i (.vec nx)))))) nx (some (.vec k' [])),nx+1⟩:=by
 rintro P c a w ⟨h0,A,μ,H⟩
 obtain⟨hd0,q1,⟨q2,q3,v0,ty0,⟨vs0,q4,q5,q6⟩,q7⟩,q8⟩:=H.blk b0 _ hb
 have hi:i<cs.length:=(List.getElem?_eq_some_iff.mp h).1
 have hv0:=(RVL.length q5)
 obtain⟨vi,hvi⟩:∃vi,vs0[i]?=some vi:=⟨vs0[i]'(by omega),List.getElem?_eq_getElem (by omega)⟩
 obtain⟨ad,hv⟩:=RV.nilsl (RVL.get2 q5 h hvi)
 obtain⟨f1,f2⟩:μ nx=none∧hp nx=none:=H.fr nx (Nat.le_refl _)
 let hd:Hd:=⟨some ad,0,k',0,0⟩
 have hne:b0≠nx:=λe=>by subst e;rw[f2]at hb;cases hb
 have hle:bv μ (upd μ nx (some hd)):=by
  intro b hd' e
  by_cases g:b=nx
  ·subst g;rw[f1]at e;cases e
  ·rw[aD _ _ g];exact e
 have key:=H.add nx f2 (upd μ nx (some hd)) hle (λb hb=>aD _ _ hb) hd (aq _ _ _) (.vec k' []) ⟨rfl,.inl ⟨rfl,rfl⟩⟩ (λe=>by cases e) (λ_ _ _ _ _ _ e=>by cases e)
 have hswap:upd (upd hp b0 (some (.box (.agg (cs.set i (.vec nx)))))) nx (some (.vec k' []))=upd (upd hp nx (some (.vec k' []))) b0 (some (.box (.agg (cs.set i (.vec nx))))):=by
  funext b
  by_cases e1:b=b0
  ·subst e1;rw[aq,aD _ _ hne,aq]
  ·rw[aD _ _ e1]
   by_cases e2:b=nx
   ·subst e2;rw[aq,aq]
   ·rw[aD _ _ e2,aD _ _ e1,aD _ _ e2]
 rw[hswap]
 have back:∀b x,upd (upd hp nx (some (.vec k' []))) b0 (some (.box (.agg (cs.set i (.vec nx))))) b=some x→∃y,upd hp nx (some (.vec k' [])) b=some y:=by
  intro b x hx
  by_cases e:b=b0
  ·subst e;exact⟨.box (.agg cs),by rw[aD _ _ hne];exact hb⟩
  ·rw[aD _ _ e]at hx;exact⟨x,hx⟩
 refine⟨h0,A,upd μ nx (some hd),⟨key.tm,key.n,key.df,λb x hx=>?_,λb b' x x' hd1 hd2 hx hx'=>?_,key.lt,λb hb'=>?_,key.keep,key.A0,key.A1,key.mu⟩⟩
 ·by_cases e:b=b0
  ·subst e
   have hx:some (Blk.box (.agg (cs.set i (.vec nx))))=some x:=by
    rw[←hx];exact(aq _ _ _).symm
   cases hx
   refine⟨hd0,hle _ _ q1,⟨q2,rfl,v0,ty0,⟨vs0,q4,?_,q6⟩,q7⟩,q8⟩
   exact RVL.setAt (RVL.mono (λ_ _=>rfl) (λ_ h=>h) _ hle q5) hvi ⟨hd,aq _ _ _,hv⟩
  ·have hx:upd hp nx (some (.vec k' [])) b=some x:=by
    rw[←hx];exact(aD _ _ e).symm
   exact key.blk b x hx
 ·obtain⟨y,hy⟩:=back b x hx
  obtain⟨y',hy'⟩:=back b' x' hx'
  exact key.inj _ _ _ _ _ _ hy hy'
 ·have hb':nx+1≤b:=hb'
  have:upd μ nx (some hd) b=none∧upd hp nx (some (.vec k' [])) b=none:=key.fr b ⟨show nx≤b by omega,by omega⟩
  refine⟨this.1,?_⟩
  show upd (upd hp nx (some (.vec k' []))) b0 _ b=none
  by_cases e:b=b0
  ·subst e;have:=this.2;rw[aD _ _ hne,hb]at this;cases this
  ·rw[aD _ _ e];exact this.2
end
end Go.Am
namespace Go.Am
section
variable {P : Program} {k n : Nat} {tm : Nat → AV} {hp : Hp} {nx : Nat}
theorem dT.set{b:Nat}{hp:Hp}{y:AV}:∀{cs:List AV} {i:Nat} {x:AV},cs[i]?=some x→bO b hp x y→dT b hp cs (cs.set i y)
 | [],i,x,h,_=>by simp at h
 | c::cs,0,x,h,g=>by simp at h;subst h;exact⟨g,dT.refl⟩
 | c::cs,i+1,x,h,g=>⟨bO.refl,dT.set (by simpa using h) g⟩
theorem aQ.subT{y:AV}(t:Nat)(h:Sub (tm t) y):aQ k n ⟨tm,hp,nx⟩ ⟨upd tm t y,hp,nx⟩:=by
 refine aQ.sub (λu=>?_) rfl rfl
 show Sub (tm u) (upd tm t y u)
 by_cases e:u=t
 ·subst e;rw[aq];exact h
 ·rw[aD _ _ e];exact Sub.refl
theorem fa.set{y:AV}:∀{cs:List AV} {i:Nat} {x:AV},cs[i]?=some x→Sub x y→fa cs (cs.set i y)
 | [],i,x,h,_=>by simp at h
 | c::cs,0,x,h,g=>by simp at h;subst h;exact⟨g,fa.refl⟩
 | c::cs,i+1,x,h,g=>⟨Sub.refl,fa.set (by simpa using h) g⟩
theorem aQ.subB{x y:AV}(b0:Nat)(h0:hp b0=some (.box x))(h:Sub x y)(hy:y.solid=true):aQ k n ⟨tm,hp,nx⟩ ⟨tm,upd hp b0 (some (.box y)),nx⟩:=by
 rintro P c a w ⟨h1,A,μ,H⟩
 obtain⟨hd,q1,⟨q2,q3,v,ty,q4,q5⟩,q6⟩:=H.blk b0 _ h0
 have back:∀b z,upd hp b0 (some (.box y)) b=some z→∃z',hp b=some z':=by
  intro b z hz
  by_cases e:b=b0
  ·subst e;exact⟨_,h0⟩
  ·rw[aD _ _ e]at hz;exact⟨z,hz⟩
 refine⟨h1,A,μ,⟨H.tm,H.n,H.df,λb z hz=>?_,λb b' z z' hd1 hd2 hz hz'=>?_,H.lt,λb hb=>?_,H.keep,H.A0,H.A1,H.mu⟩⟩
 ·have hz:upd hp b0 (some (.box y)) b=some z:=hz
  by_cases e:b=b0
  ·subst e;rw[aq]at hz;cases hz
   exact⟨hd,q1,⟨q2,hy,v,ty,h _ _ _ _ q4,q5⟩,q6⟩
  ·rw[aD _ _ e]at hz;exact H.blk b z hz
 ·obtain⟨_,g⟩:=back _ _ hz
  obtain⟨_,g'⟩:=back _ _ hz'
  exact H.inj _ _ _ _ _ _ g g'
 ·have:μ b=none∧hp b=none:=H.fr b hb
  refine⟨this.1,?_⟩
  show upd hp b0 (some (.box y)) b=none
  by_cases e:b=b0
  ·subst e;rw[h0]at this;cases this.2
  ·rw[aD _ _ e];exact this.2
end
end Go.Am
namespace Go.Am
section
variable {P : Program} {k n : Nat} {tm : Nat → AV} {hp : Hp} {nx : Nat} {fid : FuncId}
end
end Go.Am
namespace Go.Am
theorem RV.int{w:World}{A:Nat→Prop}{k:IntKind}{n:Int}(h:(Lit.int k n).wf=true):RV w A (.val (.int k n)) cR (.int k n):=⟨rfl,by simpa[Lit.wf,aK,inK]using h⟩
end Go.Am
namespace Go.Am
set_option linter.defProp false
def dm:=(And.intro (And.intro (And.intro (And.intro (And.intro (And.intro (And.intro @evA.eq_1 (And.intro @evA.eq_2 @evA.eq_3)) (And.intro @evA.eq_4 (And.intro @evA.eq_5 @evA.eq_6))) (And.intro (And.intro @evA.eq_7 (And.intro @evA.eq_8 @evA.eq_9)) (And.intro @evA.eq_10 (And.intro @evA.eq_11 @evA.eq_12)))) (And.intro (And.intro (And.intro @evA.eq_13 (And.intro @evA.eq_14 @evA.eq_15)) (And.intro @evA.eq_16 (And.intro @evA.eq_17 @evA.eq_18))) (And.intro (And.intro @evA.eq_19 (And.intro @evA.eq_20 @evA.eq_21)) (And.intro @evA.eq_22 (And.intro @evA.eq_23 @evA.eq_24))))) (And.intro (And.intro (And.intro (And.intro @evA.eq_25 (And.intro @evA.eq_26 @evA.eq_27)) (And.intro @evA.eq_28 (And.intro @evA.eq_29 @evA.eq_30))) (And.intro (And.intro @evA.eq_31 (And.intro @evA.eq_32 @evA.eq_33)) (And.intro @evA.eq_34 (And.intro @evA.eq_35 @evA.eq_36)))) (And.intro (And.intro (And.intro @evA.eq_37 (And.intro @evA.eq_38 @evA.eq_39)) (And.intro @evA.eq_40 (And.intro @evA.eq_41 @bD.eq_1))) (And.intro (And.intro @db.eq_1 (And.intro @db.eq_2 @db.eq_3)) (And.intro @db.eq_4 (And.intro @db.eq_5 @db.eq_6)))))) (And.intro (And.intro (And.intro (And.intro (And.intro @db.eq_7 (And.intro @db.eq_8 @db.eq_9)) (And.intro @db.eq_10 (And.intro @db.eq_11 @db.eq_12))) (And.intro (And.intro @db.eq_13 (And.intro @db.eq_14 @db.eq_15)) (And.intro @db.eq_16 (And.intro @db.eq_17 @db.eq_18)))) (And.intro (And.intro (And.intro @db.eq_19 (And.intro @db.eq_20 @db.eq_21)) (And.intro @db.eq_22 (And.intro @db.eq_23 @db.eq_24))) (And.intro (And.intro @db.eq_25 (And.intro @db.eq_26 @unA.eq_1)) (And.intro @unA.eq_2 (And.intro @unA.eq_3 @ix.eq_1))))) (And.intro (And.intro (And.intro (And.intro @ix.eq_2 (And.intro @ix.eq_3 @ix.eq_4)) (And.intro @rdH.eq_1 (And.intro @cj.eq_1 @cj.eq_2))) (And.intro (And.intro @cj.eq_3 (And.intro @cj.eq_4 @cj.eq_5)) (And.intro @cj.eq_6 (And.intro @cj.eq_7 @cj.eq_8)))) (And.intro (And.intro (And.intro @cj.eq_9 (And.intro @cj.eq_10 @cj.eq_11)) (And.intro @cj.eq_12 (And.intro @cj.eq_13 @cj.eq_14))) (And.intro (And.intro @cj.eq_15 (And.intro @cj.eq_16 @cj.eq_17)) (And.intro @cj.eq_18 (And.intro @UF.eq_1 @AOp.opers.eq_1))))))) (And.intro (And.intro (And.intro (And.intro (And.intro (And.intro @AOp.opers.eq_2 (And.intro @AOp.opers.eq_3 @AOp.opers.eq_4)) (And.intro @AOp.opers.eq_5 (And.intro @AOp.opers.eq_6 @AOp.opers.eq_7))) (And.intro (And.intro @AOp.opers.eq_8 (And.intro @AOp.opers.eq_9 @AOp.opers.eq_10)) (And.intro @AOp.opers.eq_11 (And.intro @AOp.opers.eq_12 @AOp.opers.eq_13)))) (And.intro (And.intro (And.intro @AOp.opers.eq_14 (And.intro @AOp.opers.eq_15 @AOp.opers.eq_16)) (And.intro @AOp.opers.eq_17 (And.intro @AOp.opers.eq_18 @AOp.opers.eq_19))) (And.intro (And.intro @AOp.opers.eq_20 (And.intro @AOp.opers.eq_21 @AOp.opers.eq_22)) (And.intro @AOp.opers.eq_23 (And.intro @AOp.opers.eq_24 @AOp.opers.eq_25))))) (And.intro (And.intro (And.intro (And.intro @AOp.opers.eq_26 (And.intro @AOp.opers.eq_27 @AOp.opers.eq_28)) (And.intro @AOp.opers.eq_29 (And.intro @AOp.opers.eq_30 @AOp.opers.eq_31))) (And.intro (And.intro @AOp.opers.eq_32 (And.intro @AOp.opers.eq_33 @AOp.opers.eq_34)) (And.intro @AOp.opers.eq_35 (And.intro @AOp.opers.eq_36 @AOp.opers.eq_37)))) (And.intro (And.intro (And.intro @AOp.opers.eq_38 (And.intro @AOp.opers.eq_39 @AOp.opers.eq_40)) (And.intro @AOp.opers.eq_41 (And.intro @be.eq_1 @be.eq_2))) (And.intro (And.intro @be.eq_3 (And.intro @be.eq_4 @be.eq_5)) (And.intro @be.eq_6 (And.intro @cV.eq_1 @eU.eq_1)))))) (And.intro (And.intro (And.intro (And.intro (And.intro @lX.eq_1 (And.intro @dz.eq_1 @AV.solid.eq_1)) (And.intro @AV.solid.eq_2 (And.intro @AV.solid.eq_3 @AV.cells.eq_1))) (And.intro (And.intro @AV.cells.eq_2 (And.intro @AV.isAgg.eq_1 @AV.isAgg.eq_2)) (And.intro @iC.eq_1 (And.intro @uJ.eq_1 @MY.eq_1)))) (And.intro (And.intro (And.intro @i6.eq_1 (And.intro @i6.eq_2 @i6.eq_3)) (And.intro @i6.eq_4 (And.intro @i6.eq_5 @sliceA.eq_1))) (And.intro (And.intro @sliceA.eq_2 (And.intro @sliceA.eq_3 @sliceA.eq_4)) (And.intro @sliceA.eq_5 (And.intro @cz.eq_1 @cz.eq_2))))) (And.intro (And.intro (And.intro (And.intro @bY.eq_1 (And.intro @bY.eq_2 @bY.eq_3)) (And.intro @bY.eq_4 (And.intro @bY.eq_5 @lS.eq_1))) (And.intro (And.intro @lS.eq_2 (And.intro @lS.eq_3 @xA.eq_1)) (And.intro @tR.eq_1 (And.intro @qp.eq_1 @AV.pure.eq_1)))) (And.intro (And.intro (And.intro @AV.pure.eq_2 (And.intro @AV.pure.eq_3 @AV.pure.eq_4)) (And.intro @AV.pure.eq_5 (And.intro @AV.pure.eq_6 @AV.pure.eq_7))) (And.intro (And.intro @AV.pure.eq_8 (And.intro @AV.pure.eq_9 @AV.pure.eq_10)) (And.intro (And.intro @AV.pure.eq_11 @AV.pure.eq_12) (And.intro @cI.eq_1 @cI.eq_2))))))))
def dj:=And.intro @List.set_cons_zero.{0} (And.intro @List.set_cons_succ.{0} (And.intro @Option.isSome_some.{0} (And.intro @List.replicate.eq_1.{0} (And.intro @List.replicate.eq_2.{0} (And.intro @List.length_map.{0,0} (And.intro @Int.toNat_natCast (And.intro @Qf (And.intro @K4 (And.intro @VU @Rl)))))))))
end Go.Am
namespace Go.Am
def Rc(P:Program)(t:TypeId):Bool:=match P.underlying t with
 | some (.int .i64)=>true
 | _=>false
def bndT(P:Program)(t:TypeId):Bool:=match P.underlying t with
 | some (.struct fs)=>match fs.toList with
  | [f0,f1]=>Rc P f0.type && Rc P f1.type && Nat.beq f0.offset 0 && Nat.beq f1.offset 1 && Nat.beq (P.cellsOf f0.type) 1 && Nat.beq (P.cellsOf f1.type) 1 && Nat.beq (P.cellsOf t) 2
  | _=>false
 | _=>false
def NQ(P:Program)(n:String):Bool:=match P.globalNamed n with
 | some g=>match (P.globals[g]?).map (·.type)with
  | some t=>bndT P t
  | none=>false
 | none=>false
abbrev NR(lo hi:Int):DataW Unit:=.agg [.lit (.int .i64 lo),.lit (.int .i64 hi)]
theorem rl{P:Program}{t:TypeId}(h:Rc P t=true):P.underlying t=some (.int .i64):=by
 unfold Rc at h
 split at h
 ·assumption
 ·cases h
theorem k9{P:Program}{w:World}{n:String}{lo hi:Int}{r:List (String×DataW Unit)}{ps:List MemPlace}(hb:NQ P n=true)(h:DataW.LaidVars P w ((n,NR lo hi)::r) ps) :
  (∃g,P.globalNamed n=some g∧w.cell? ⟨g,0,none⟩=some (.int .i64 lo)∧w.cell? ⟨g,1,none⟩=some (.int .i64 hi))∧∃q,DataW.LaidVars P w r q:=by
 obtain⟨g,t,cs,fuel,p,q,hg,ht,hvar,hd,hr,_⟩:=h
 refine⟨⟨g,hg,?_⟩,q,hr⟩
 unfold NQ at hb
 rw[hg]at hb
 simp only[ht]at hb
 unfold bndT at hb
 split at hb
 ·rename_i fs hu
  split at hb
  ·rename_i f0 f1 hfs
   simp only[Bool.and_eq_true]at hb
   obtain⟨⟨⟨⟨⟨⟨b1,b2⟩,b3⟩,b4⟩,b5⟩,b6⟩,b7⟩:=hb
   have b3:=Nat.eq_of_beq_eq_true b3
   have b4:=Nat.eq_of_beq_eq_true b4
   have b5:=Nat.eq_of_beq_eq_true b5
   have b6:=Nat.eq_of_beq_eq_true b6
   have b7:=Nat.eq_of_beq_eq_true b7
   obtain⟨xs,m,-,hx,hl,hxl,he⟩:=DataW.trod_struct hu hd
   have hfs':fs=#[f0,f1]:=by cases fs;simp_all
   subst hfs'
   have e0:=he 0 f0 rfl
   have e1:=he 1 f1 rfl
   rw[b7]at hl
   match xs,hxl with
   | [x0,x1],_ =>
   rw[b3,b5,List.drop_zero]at e0
   rw[b4,b6]at e1
   obtain⟨s0,c0,g0,_⟩:=DataW.trod_int (rl b1) e0
   obtain⟨s1,c1,g1,_⟩:=DataW.trod_int (rl b2) e1
   simp only[List.map_cons,List.map_nil,Prod.mk.injEq,DataW.agg.injEq,List.cons.injEq,and_true]at hx
   obtain⟨⟨h0,h1⟩,_⟩:=hx
   rw[g0]at h0;rw[g1]at h1
   simp only[DataW.lit.injEq,Lit.int.injEq,true_and]at h0 h1
   subst h0;subst h1
   have k0:=World.var?_cell hg hvar 0
   have k1:=World.var?_cell hg hvar 1
   rw[k0,k1]
   obtain⟨l⟩:=cs
   match l,hl with
   | [y0,y1],_ =>
   simp at c0 c1
   subst c0;subst c1
   exact⟨rfl,rfl⟩
  ·cases hb
 ·cases hb
def Fw(n:String):Bool:=(gvT n).isSome
def Wd(P:Program):Bool:=(List.range P.globals.size).all λg=>match P.globals[g]? with
 | some G=>!Fw G.name || (match P.globalNamed G.name with
  | some g'=>Nat.beq g g'
  | none=>false)
 | none=>true
theorem ko{w:World}{g:Nat}{lo hi:Int}(h0:w.cell? ⟨g,0,none⟩=some (.int .i64 lo))(h1:w.cell? ⟨g,1,none⟩=some (.int .i64 hi))(p0:inK .i64 lo)(p1:inK .i64 hi) :
  RV w (Old w) (.rptr (.agg [.int lo,.int hi]) 0) cR (.pointer (some ⟨g,0,none⟩)):=by
 refine⟨g,0,.agg #[.int .i64 lo,.int .i64 hi],rfl,(Addr.eta h0).2,⟨_,rfl,⟨_,_,rfl,⟨rfl,p0⟩,_,_,rfl,⟨rfl,p1⟩,rfl⟩,?_⟩,?_,?_⟩
 ·intro v hv;simp at hv;rcases hv with rfl|rfl<;>rfl
 ·intro c hc;simp[Value.cells]at hc;rcases hc with rfl|rfl<;>rfl
 ·intro p u hu
  simp only[Value.cells]at hu
  match p with
  | 0=>simp at hu;subst hu;exact h0
  | 1=>simp at hu;subst hu;exact h1
  | p+2=>simp at hu
/-- The four variables of package signal. -/
def sigLaid : List (String × DataW Unit) := [("bitcast/signal.zero", NR 0 0), ("bitcast/signal.number", NR 0 1000000), ("bitcast/signal.first", NR 1 1000000), ("bitcast/signal.group", NR 1 99)]
theorem LtOk.laid{P:Program}{w:World}(h:laidMet P sigLaid w)(hb:(sigLaid.map (·.1)).all (NQ P)=true)(hg:Wd P=true)(ht:nI P=true):LtOk P (Old w) w:=by
 obtain⟨ps,hl,_⟩:=h
 simp only[sigLaid,List.map_cons,List.map_nil,List.all_cons,List.all_nil,Bool.and_eq_true,and_true]at hb
 obtain⟨b1,b2,b3,b4⟩:=hb
 obtain⟨⟨g1,n1,c1,d1⟩,q1,hl⟩:=k9 b1 hl
 obtain⟨⟨g2,n2,c2,d2⟩,q2,hl⟩:=k9 b2 hl
 obtain⟨⟨g3,n3,c3,d3⟩,q3,hl⟩:=k9 b3 hl
 obtain⟨⟨g4,n4,c4,d4⟩,q4,hl⟩:=k9 b4 hl
 refine⟨λ_ hb=>hb,λg x e=>?_,λ_ _ _ _ e1 e2=>(J8 ht e1 e2).elim⟩
 unfold gvP at e
 obtain⟨G,hG,e⟩:=Option.bind_eq_some_iff.mp e
 have hlt:g<P.globals.size:=(Array.getElem?_eq_some_iff.mp hG).1
 have hn:=List.all_eq_true.mp hg g (List.mem_range.mpr hlt)
 simp only[hG,Fw,e,Option.isSome_some,Bool.not_true,Bool.false_or]at hn
 have hid:∀g',P.globalNamed G.name=some g'→g=g':=λg' hg'=>by
  rw[hg']at hn;exact Nat.eq_of_beq_eq_true hn
 unfold gvT at e
 split at e
 ·rename_i hname;cases e;rw[hid g1 (by rw[hname];exact n1)];exact ko c1 d1 (by constructor<;>decide) (by constructor<;>decide)
 split at e
 ·rename_i hname;cases e;rw[hid g2 (by rw[hname];exact n2)];exact ko c2 d2 (by constructor<;>decide) (by constructor<;>decide)
 split at e
 ·rename_i hname;cases e;rw[hid g3 (by rw[hname];exact n3)];exact ko c3 d3 (by constructor<;>decide) (by constructor<;>decide)
 split at e
 ·rename_i hname;cases e;rw[hid g4 (by rw[hname];exact n4)];exact ko c4 d4 (by constructor<;>decide) (by constructor<;>decide)
 ·cases e
end Go.Am
namespace Go.Am
open Go.ChangeShapes Go.WideShapes Go.RowKit
section
variable {P : Program} {H : Type} {enc : TypeId × Value → H} {w : World} {base : Nat} {held : Bool} {fuel : Nat} {cs : List Value} {x : DataW H × List MemPlace}
inductive dD (B:Nat) {H:Type}:DataW H→Prop where
  | lit (l:Lit):dD B (.lit l)
  | nil:dD B .nil
  | slice (es sp:List (DataW H)):es.length≤B→(∀d∈es,dD B d)→dD B (.slice es sp)
  | agg (ps:List (DataW H)):(∀d∈ps,dD B d)→dD B (.agg ps)
  | ptr (d:DataW H):dD B (.ptr d)
  | iface (t:_) (d:_):dD B (.iface t d)
  | map (e:_):dD B (.map e)
  | held (h:_):dD B (.held h)
theorem wM{t e:TypeId}{k:Nat}(hk:0<k)(ht:P.underlying t=some (.slice e))(hc:P.cellsOf e=k){α:Type}(f:α→AV){B:Nat}{q:α→Prop}
  (hsol:∀a,(f a).solid=true)
  (he:∀(n:Nat) (cs:List Value) (y:DataW H×List MemPlace),DataW.trod enc P w base (λ_=>true) held n e cs=some y→cs.length=k→∃(a:α) (v:Value),v.cells.toList=cs∧cq v∧RV w (Old w) (f a) cR v∧(dD B y.1→q a))
  (h:DataW.trod enc P w base (λ_=>true) held fuel t cs=some x):∃(l:List α),RVL w (Old w) [.sl k (l.map f) false] cR cs∧(dD B x.1→l.length≤B∧∀a∈l,q a):=by
 rcases DataW.trod_slice ht h with⟨rfl,_⟩|⟨a,len,cap,elems,rest,n,_,rfl,rfl,hb,hl,hm,hlen,hel,hsp,hns⟩
 ·exact⟨[],⟨_,_,rfl,.inl ⟨rfl,_,rfl⟩,rfl⟩,λ_=>⟨by simp,λa ha=>by simp at ha⟩⟩
 by_cases h0:cap=0
 ·subst h0
  have:len=0:=by omega
  subst this
  exact⟨[],⟨_,_,rfl,.inl ⟨rfl,_,rfl⟩,rfl⟩,λ_=>⟨by simp,λa ha=>by simp at ha⟩⟩
 obtain⟨hrl,hr⟩:=hsp rfl
 -- the first cell
 have hfirst:∃v,w.cell? a=some v:=by
  have h1:∃cs',w.cells? base (a.add (0 * k)) k=some cs':=by
   by_cases hz:0<len
   ·have h1:=hel 0 hz
    rw[hc,List.getElem?_eq_getElem (show 0<elems.length by omega),Option.bind_eq_some_iff]at h1
    obtain⟨cs',h2,_⟩:=h1
    exact⟨cs',h2⟩
   ·have h1:=hr 0 (by omega)
    rw[hc,List.getElem?_eq_getElem (show 0<rest.length by omega),Option.bind_eq_some_iff]at h1
    obtain⟨cs',h2,_⟩:=h1
    exact⟨cs',by rw[show len+0=0 by omega]at h2;exact h2⟩
  obtain⟨cs',h2⟩:=h1
  obtain⟨_,h3,h4⟩:=World.cells?_some h2
  have h5:=h4 0 hk
  rw[List.getElem?_eq_getElem (show 0<cs'.length by omega)]at h5
  refine⟨_,by rw[←h5];congr 1;simp[Addr.add]⟩
 obtain⟨v0,hv0⟩:=hfirst
 obtain⟨e1,e2⟩:=Addr.eta hv0
 have each:∀i,i<len→∃(b:α) (v:Value),(v.cells.size=k∧∀j u,v.cells[j]?=some u→w.cell? ⟨a.block,a.off+(i * k+j),none⟩=some u)∧cq v∧RV w (Old w) (f b) cR v∧∀y,elems[i]?=some y→dD B y.1→q b:=by
  intro i hi
  have h1:=hel i hi
  rw[hc,List.getElem?_eq_getElem (show i<elems.length by omega),Option.bind_eq_some_iff]at h1
  obtain⟨cs',h2,h3⟩:=h1
  obtain⟨_,h4,h5⟩:=World.cells?_some h2
  obtain⟨b,v,g1,g2,g3,g4⟩:=he n cs' _ h3 h4
  have hsz:v.cells.size=k:=by rw[←h4,←g1];simp
  refine⟨b,v,⟨hsz,λj u hu=>?_⟩,g2,g3,λy hy=>by rw[List.getElem?_eq_getElem (show i<elems.length by omega)]at hy;cases hy;exact g4⟩
  have hj:j<k:=by have:=(Array.getElem?_eq_some_iff.mp hu).1;omega
  have h6:=h5 j hj
  rw[←g1]at h6
  rw[e1]at h6
  have e3:((Addr.mk a.block a.off none).add (i * k)).add j=⟨a.block,a.off+(i * k+j),none⟩:=by
   simp only[Addr.add]
   by_cases q1:i * k=0
   ·rw[if_pos q1,q1]
    by_cases q2:j=0
    ·rw[if_pos q2,q2];rfl
    ·rw[if_neg q2];simp
   ·rw[if_neg q1]
    by_cases q2:j=0
    ·rw[if_pos q2,q2];rfl
    ·rw[if_neg q2];simp[Nat.add_assoc]
  rw[e3]at h6
  rw[h6];simpa using hu
 have build:∀n,n≤len→∃(l:List α) (vs:List Value),l.length=n∧vs.length=n∧∀i b v,l[i]?=some b→vs[i]?=some v→(v.cells.size=k∧∀j u,v.cells[j]?=some u→w.cell? ⟨a.block,a.off+(i * k+j),none⟩=some u)∧cq v∧RV w (Old w) (f b) cR v∧∀y,elems[i]?=some y→dD B y.1→q b:=by
  intro n
  induction n with
  | zero=>intro _;exact⟨[],[],rfl,rfl,λi b v hb=>by simp at hb⟩
  | succ n ih =>
   intro hn
   obtain⟨l,vs,h1,h2,h3⟩:=ih (by omega)
   obtain⟨b,v,h4⟩:=each n (by omega)
   refine⟨l++[b],vs++[v],by simp[h1],by simp[h2],λi b' v' hb' hv'=>?_⟩
   by_cases hi:i<n
   ·rw[List.getElem?_append_left (by omega)]at hb' hv'
    exact h3 i b' v' hb' hv'
   ·have hil:i<(l++[b]).length:=(List.getElem?_eq_some_iff.mp hb').1
    have hie:i=n:=by simp[h1]at hil;omega
    subst hie
    rw[List.getElem?_append_right (by omega),h1]at hb'
    rw[List.getElem?_append_right (by omega),h2]at hv'
    simp at hb' hv'
    subst hb';subst hv'
    exact h4
 obtain⟨l,vs,h1,h2,h3⟩:=build len (Nat.le_refl _)
 have hget:∀i,i<len→∃b v,l[i]?=some b∧vs[i]?=some v:=λi hi=>⟨_,_,List.getElem?_eq_getElem (by omega),List.getElem?_eq_getElem (by omega)⟩
 have hvs:∀v∈vs,v.cells.size=k∧cq v:=λv hv=>by
  obtain⟨i,hi,rfl⟩:=List.getElem_of_mem hv
  obtain⟨g1,g2,_⟩:=h3 i _ _ (List.getElem?_eq_getElem (show i<l.length by omega)) (List.getElem?_eq_getElem hi)
  exact⟨g1.1,g2⟩
 refine⟨l,⟨_,_,rfl,.inr ⟨a.block,a.off,cap,vs,?_,e2,?_,hm,(λh=>by cases h),?_,hvs,?_,?_⟩,rfl⟩,λhs=>?_⟩
 ·rw[←e1];simp[h1]
 ·simp[h1];exact hl
 ·refine RVL.of_get (by simp[h1,h2]) λi y v hy hv=>?_
  rw[List.getElem?_map]at hy
  cases hb:l[i]? with
  | none=>rw[hb]at hy;simp at hy
  | some b =>
   rw[hb]at hy;simp at hy;subst hy
   exact(h3 i b v hb hv).2.2.1
 ·intro p u hu
  have hk':∀v∈vs,v.cells.size=k:=λv hv=>(hvs v hv).1
  have hp:p<vs.length * k:=by rw[←flat_len hk'];exact(List.getElem?_eq_some_iff.mp hu).1
  have hi:p / k<vs.length:=Nat.div_lt_of_lt_mul (by rw[Nat.mul_comm];exact hp)
  have hj:p % k<k:=Nat.mod_lt _ hk
  have hpe:p=p / k * k+p % k:=by rw[Nat.mul_comm];exact(Nat.div_add_mod p k).symm
  have hv:=List.getElem?_eq_getElem hi
  have hfa:=uB hk' hv hj
  rw[←hpe,hu]at hfa
  have:=(h3 (p / k) _ _ (List.getElem?_eq_getElem (show p / k<l.length by omega)) hv).1.2 (p % k) u (by simpa using hfa.symm)
  rw[hpe];exact this
 ·intro y hy
  obtain⟨b,_,rfl⟩:=List.mem_map.mp hy
  exact hsol b
 ·cases hs with
  | slice _ _ s1 s2 =>
   rw[List.length_map]at s1
   refine⟨by omega,λc hc=>?_⟩
   obtain⟨i,hi,rfl⟩:=List.getElem_of_mem hc
   have hie:i<elems.length:=by omega
   exact(h3 i _ _ (List.getElem?_eq_getElem hi) (List.getElem?_eq_getElem (show i<vs.length by omega))).2.2.2 _ (List.getElem?_eq_getElem hie) (s2 _ (List.mem_map_of_mem (List.getElem_mem hie)))
theorem tb{xs:List AV}{vs:List Value}(h:RVL w (Old w) xs cR vs)(hs:∀x∈xs,x.solid=true∧x.isAgg=false):∀v∈vs,v.oneCell'=true:=λv hv=>by
 obtain⟨i,hi⟩:=List.getElem?_of_mem hv
 have hlt:i<xs.length:=by rw[h.length];exact(List.getElem?_eq_some_iff.mp hi).1
 have hx:=List.getElem?_eq_getElem hlt
 have:=hs _ (List.getElem_mem hlt)
 exact RV.one this.1 this.2 (h.get2 hx hi)
theorem Az{xs ys:List AV}{us vs:List Value}(h:RVL w (Old w) xs cR us)(h':RVL w (Old w) ys cR vs):RVL w (Old w) (xs++ys) cR (us++vs):=by
 refine RVL.of_get (by rw[List.length_append,List.length_append,h.length,h'.length]) λi x v hx hv=>?_
 by_cases hi:i<xs.length
 ·rw[List.getElem?_append_left hi]at hx
  rw[List.getElem?_append_left (by rw[←h.length];exact hi)]at hv
  exact h.get2 hx hv
 ·rw[List.getElem?_append_right (by omega)]at hx
  rw[List.getElem?_append_right (by rw[←h.length];omega),←h.length]at hv
  exact h'.get2 hx hv
end
structure Rd (P:Program) (α:Type) where
  t:TypeId
  n:Nat
  enc:α→List AV
  v:α→AV
  pos:0<n
  hn:P.cellsOf t=n
  sol:∀a,∀x∈enc a,x.solid=true∧x.isAgg=false
  hv:(∀a,v a=.agg (enc a))∨(∀a,enc a=[v a])
  q:Nat→α→Prop
  rd:∀{H:Type} {e:TypeId×Value→H} {w:World} {base:Nat} {held:Bool} {fuel:Nat} {cs:List Value} {x:DataW H×List MemPlace} (B:Nat),
    cs.length=n→DataW.trod e P w base (λ_=>true) held fuel t cs=some x→∃a,RVL w (Old w) (enc a) cR cs∧(dD B x.1→q B a)
theorem Rd.vsol{P:Program}{α:Type}(r:Rd P α)(a:α):(r.v a).solid=true:=by
 rcases r.hv with h|h
 ·rw[h];rfl
 ·exact(r.sol a (r.v a) (by rw[h];simp)).1
theorem Rd.elem{P:Program}{α:Type}(r:Rd P α){H:Type}{e:TypeId×Value→H}{w:World}{base:Nat}{held:Bool}{fuel:Nat}{cs:List Value}{x:DataW H×List MemPlace}(B:Nat)
  (h:DataW.trod e P w base (λ_=>true) held fuel r.t cs=some x) (hl:cs.length=r.n):∃(a:α) (u:Value),u.cells.toList=cs∧cq u∧RV w (Old w) (r.v a) cR u∧(dD B x.1→r.q B a):=by
 obtain⟨a,ha,hq⟩:=r.rd B hl h
 rcases r.hv with hv|hv
 ·refine⟨a,.agg cs.toArray,by simp[Value.cells],λc hc=>tb ha (r.sol a) c (by simpa[Value.cells]using hc),?_,hq⟩
  rw[hv]
  exact⟨cs,rfl,ha,tb ha (r.sol a)⟩
 ·have ha':=ha
  rw[hv]at ha'
  obtain⟨u,us,rfl,h1,rfl⟩:=ha'
  have h2:=r.sol a (r.v a) (by rw[hv];simp)
  have ho:=RV.one h2.1 h2.2 h1
  have hc:u.cells=#[u]:=by cases u<;>first|rfl|simp[Value.oneCell']at ho
  exact⟨a,u,by rw[hc],λc hc'=>by rw[hc]at hc';simp at hc';rw[hc'];exact ho,h1,hq⟩
def Rd.int{P:Program}(k:IntKind)(t:TypeId)(ht:P.underlying t=some (.int k))(hn:P.cellsOf t=1):Rd P Int:=
 ⟨t,1,λa=>[.val (.int k a)],λa=>.val (.int k a),by omega,hn,λa x hx=>by simp at hx;subst hx;exact⟨rfl,rfl⟩,.inr λ_=>rfl,λ_ _=>True,λ_ hl h=>by
  obtain⟨n,rfl,_,hw⟩:=DataW.trod_int ht h
  exact⟨n,⟨_,_,rfl,⟨rfl,by simpa[Lit.wf,aK,inK]using hw⟩,rfl⟩,λ_=>trivial⟩⟩
def Rd.slice{P:Program}{α:Type}(r:Rd P α)(t:TypeId)(ht:P.underlying t=some (.slice r.t))(hn:P.cellsOf t=1):Rd P (List α):=
 ⟨t,1,λl=>[.sl r.n (l.map r.v) false],λl=>.sl r.n (l.map r.v) false,by omega,hn,λa x hx=>by simp at hx;subst hx;exact⟨rfl,rfl⟩,.inr λ_=>rfl,λB l=>l.length≤B∧∀a∈l,r.q B a,λB hl h =>
  wM r.pos ht r.hn r.v r.vsol (λn cs y hy hl=>r.elem B hy hl) h⟩
structure RdF (P:Program) (α:Type) where
  ts:List (TypeId×Nat)
  n:Nat
  enc:α→List AV
  hn:n=(ts.map (·.2)).sum
  sol:∀a,∀x∈enc a,x.solid=true∧x.isAgg=false
  q:Nat→α→Prop
  rd:∀{H:Type} {e:TypeId×Value→H} {w:World} {base:Nat} {held:Bool} {fuel:Nat} {cs:List Value} {ys:List (DataW H×List MemPlace)} (B:Nat),
    cs.length=n→ys.length=ts.length →
    (∀(i o:Nat) (p:TypeId×Nat),ts[i]?=some p→o=((ts.take i).map (·.2)).sum→DataW.trod e P w base (λ_=>true) held fuel p.1 ((cs.drop o).take p.2)=ys[i]?)→∃a,RVL w (Old w) (enc a) cR cs∧((∀y∈ys,dD B y.1)→q B a)
def RdF.nil{P:Program}:RdF P Unit:=⟨[],0,λ_=>[],rfl,λa x hx=>by simp at hx,λ_ _=>True,λ_ hl _ _=>⟨(),by rw[List.eq_nil_of_length_eq_zero hl];rfl,λ_=>trivial⟩⟩
def RdF.cons{P:Program}{α β:Type}(r:Rd P α)(f:RdF P β):RdF P (α×β):=
 ⟨(r.t,r.n)::f.ts,r.n+f.n,λa=>r.enc a.1++f.enc a.2,by rw[f.hn];simp,λa x hx=>by
   rcases List.mem_append.mp hx with hx|hx
   ·exact r.sol _ x hx
   ·exact f.sol _ x hx,λB a=>r.q B a.1∧f.q B a.2,λ{H e w base held fuel cs ys} B hl hy h=>by
  match ys,hy with
  | y::ys,hy =>
  have h0:=h 0 0 _ rfl rfl
  simp only[List.drop_zero,List.getElem?_cons_zero]at h0
  obtain⟨a,ha,qa⟩:=r.rd B (by simp;omega) h0
  obtain⟨b,hb,qb⟩:=f.rd B (cs:=cs.drop r.n) (ys:=ys) (fuel:=fuel) (e:=e) (w:=w) (base:=base) (held:=held) (by simp;omega) (by simpa using hy) λi o p hp ho=>by
   have:=h (i+1) (r.n+o) p (by simpa using hp) (by simp[ho])
   rw[List.drop_drop]
   simpa using this
  refine⟨(a,b),?_,λhs=>⟨qa (hs y (by simp)),qb λz hz=>hs z (by simp[hz])⟩⟩
  have:=Az ha hb
  rwa [List.take_append_drop]at this⟩
def F7(P:Program)(t:TypeId)(ts:List (TypeId×Nat))(n:Nat):Bool:=match P.underlying t with
 | some (.struct fs)=>Nat.beq (P.cellsOf t) n && Nat.beq fs.size ts.length && (List.range ts.length).all λi=>match fs[i]?,ts[i]? with
  | some f,some p=>Nat.beq f.type p.1 && Nat.beq (P.cellsOf p.1) p.2 && Nat.beq f.offset ((ts.take i).map (·.2)).sum
  | _,_=>false
 | _=>false
theorem pn{P:Program}{α:Type}{t:TypeId}(f:RdF P α)(hf:F7 P t f.ts f.n=true):P.cellsOf t=f.n∧∀{H:Type} {e:TypeId×Value→H} {w:World} {base:Nat} {held:Bool} {fuel:Nat} {cs:List Value} {x:DataW H×List MemPlace} (B:Nat),
  DataW.trod e P w base (λ_=>true) held fuel t cs=some x→∃a,RVL w (Old w) (f.enc a) cR cs∧(dD B x.1→f.q B a):=by
 unfold F7 at hf
 split at hf
 ·rename_i fs hu
  simp only[Bool.and_eq_true]at hf
  obtain⟨⟨h1,h2⟩,h3⟩:=hf
  have h1:=Nat.eq_of_beq_eq_true h1
  have h2:=Nat.eq_of_beq_eq_true h2
  refine⟨h1,λ{H e w base held fuel cs x} B h=>?_⟩
  obtain⟨xs,m,-,hx,hl,hxl,he⟩:=DataW.trod_struct hu h
  have hsm:dD B x.1→∀y∈xs,dD B y.1:=λhs=>by
   rw[hx]at hs
   cases hs with
   | agg _ s=>exact λy hy=>s _ (List.mem_map_of_mem hy)
  refine(f.rd B (cs:=cs) (ys:=xs) (fuel:=m) (e:=e) (w:=w) (base:=base) (held:=held) (by omega) (by omega) λi o p hp ho=>?_).imp λa h=>⟨h.1,λhs=>h.2 (hsm hs)⟩
  have hi:i<f.ts.length:=(List.getElem?_eq_some_iff.mp hp).1
  have h4:=List.all_eq_true.mp h3 i (List.mem_range.mpr hi)
  rw[hp]at h4
  split at h4
  ·rename_i fd p' e1 e2
   cases e2
   simp only[Bool.and_eq_true]at h4
   obtain⟨⟨h5,h6⟩,h7⟩:=h4
   have h5:=Nat.eq_of_beq_eq_true h5
   have h6:=Nat.eq_of_beq_eq_true h6
   have h7:=Nat.eq_of_beq_eq_true h7
   have:=he i fd e1
   rw[h7,h5,h6,←ho]at this
   exact this
  ·cases h4
 ·cases hf
def Rd.struct{P:Program}{α β:Type}(f:RdF P α)(t:TypeId)(hf:F7 P t f.ts f.n=true)(hp:0<f.n)(mk:α→β)(un:β→α)(h:∀a,un (mk a)=a):Rd P β:=
 ⟨t,f.n,λb=>f.enc (un b),λb=>.agg (f.enc (un b)),hp,(pn f hf).1,λb=>f.sol _,.inl λ_=>rfl,λB b=>f.q B (un b),λB hl h'=>by
  obtain⟨a,ha,hq⟩:=(pn f hf).2 B h'
  exact⟨mk a,by rw[h];exact ha,by rw[h];exact hq⟩⟩
section
variable {P : Program} {H : Type} {enc : TypeId × Value → H} {w : World} {base : Nat} {held : Bool}
theorem Rd.argS{α β:Type}{f:RdF P α}{t:TypeId}{hf:F7 P t f.ts f.n=true}{hp:0<f.n}{mk:α→β}{un:β→α}{hu:∀a,un (mk a)=a}{fs:Array Field}(ht:P.underlying t=some (.struct fs))
  {v:Value} {d:DataW H} {ps:List MemPlace} {r:Reach} {b0:Nat} (hval:Value.okWide P w r b0 t v) (B:Nat) (hd:DataW.Trod enc P w base (λ_=>true) held t v d ps):∃b:β,RV w (Old w) (.agg (f.enc (un b))) cR v∧(dD B d→f.q B (un b)):=by
 obtain⟨cs,rfl,_⟩:=okWide_struct ht hval
 obtain⟨fuel,hf'⟩:=hd
 obtain⟨a,ha,hq⟩:=(pn f hf).2 B hf'
 refine⟨mk a,?_,by rw[hu];exact hq⟩
 rw[hu]
 have ha:RVL w (Old w) (f.enc a) cR cs.toList:=by simpa[Value.cells]using ha
 exact⟨cs.toList,by simp,ha,tb ha (f.sol a)⟩
theorem Rd.argL{α:Type}(r:Rd P α){t:TypeId}(ht:P.underlying t=some (.slice r.t)){v:Value}{d:DataW H}{ps:List MemPlace}{q:Reach}{b0:Nat}(hval:Value.okWide P w q b0 t v)
  (B:Nat) (hd:DataW.Trod enc P w base (λ_=>true) held t v d ps):∃l:List α,RV w (Old w) (.sl r.n (l.map r.v) false) cR v∧(dD B d→l.length≤B∧∀a∈l,r.q B a):=by
 obtain⟨a,len,cap,rfl⟩:=okWide_slice ht hval
 obtain⟨fuel,hf⟩:=hd
 obtain⟨s,⟨u,us,h1,h2,h3⟩,hq⟩:=wM r.pos ht r.hn r.v r.vsol (B:=B) (q:=r.q B) (λn cs y hy hl=>r.elem B hy hl) hf
 have:(Value.slice a len cap).cells.toList=[.slice a len cap]:=rfl
 rw[this]at h1
 obtain⟨rfl,_⟩:=List.cons.inj h1
 exact⟨s,h2,hq⟩
end
end Go.Am
