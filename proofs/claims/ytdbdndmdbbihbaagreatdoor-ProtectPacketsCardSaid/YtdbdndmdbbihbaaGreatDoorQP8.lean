/- Texts joined: PK0 TB1 TB2 HP1 TZ P4 FW1 FW2 FW3 FW4. -/
import Derived.Shelf.Spec.TrailingZeros
import Derived.Test.YtdbdndmdbbihbaaGreatDoorQP7
set_option linter.unusedVariables false
set_option linter.unusedSimpArgs false
set_option linter.unusedSectionVars false
namespace Go.Proofs.YtdbdndmdbbihbaaGreatDoor
open Go Go.Am
theorem bL{n:Int}:aJ n=true↔n=8∨n=16∨n=32∨n=64:=decide_eq_true_iff
structure Pkt where
  mode:Int
  sub:Int
  set:Int
  len:Int
  ttl:Int
  ent:Int
  ing:Int
  proto:Int
  bits:Int
  pay:ByteArray
  deriving DecidableEq
def Pkt.v(x:Pkt):AV:=.agg [.int x.mode,.int x.sub,.int x.set,.int x.len,.int x.ttl,.int x.ent,.int x.ing,.int x.proto,.val (.int .u64 x.bits),.str x.pay]
structure Cpy where
  to:Int
  route:List Int
  mode:Int
  sub:Int
  set:Int
  len:Int
  ttl:Int
  ent:Int
  ing:Int
  proto:Int
  bits:Int
  pay:ByteArray
  deriving DecidableEq
structure Out where
  local_:Int
  lost:Int
  copies:List Cpy
  deriving DecidableEq
def Cpy.v(x:Cpy):AV:=.agg [.int x.to,.sl 1 (x.route.map AV.int) false,.int x.mode,.int x.sub,.int x.set,.int x.len,.int x.ttl,.int x.ent,.int x.ing,.int x.proto,.val (.int .u64 x.bits),.str x.pay]
def Out.v(x:Out):AV:=.agg [.val (.int .u64 x.local_),.val (.int .u64 x.lost),.sl 12 (x.copies.map Cpy.v) false]
structure Frx where
  route:List Int
  mode:Int
  sub:Int
  set:Int
  len:Int
  ttl:Int
  ent:Int
  ing:Int
  proto:Int
  bits:Int
  pay:ByteArray
  deriving DecidableEq
def cw(id len:Int):Int×Int×Bool:=if aJ len=true∧1≤id∧id≤256 then((id-1).tdiv len,(id-1).tmod len,true)else(0,0,false)
def Rq(id:Int)(length:Int):=okL [.int id,.int length]
def Ly(id:Int)(length:Int)(t0:Bool):NF:=⟨[(0,.k,.int id),(1,.k,.int length),(14,.k,.bool t0)],[]⟩
@[reducible] def FU:Nat→Type
 | 0=>Bool
 | _=>Unit
def wb(r:Int×Int×Bool):AV:=.tup [.int r.1,.int r.2.1,.bool r.2.2]
def wa(id:Int)(length:Int)(I0:Bool→Prop):Ax Tryz.prog FU (Int×Int×Bool):=
 (.pass (.pass (.join 0 (Ly id length) (λ(t0:Bool)=>I0 t0) (λb0=>(.callP (gb length)
(.br 112 (!(aJ length)) (.bk 0 b0 ((true):Bool) [])
(.callP (nE id 1 256)
(.bk 0 b0 ((!(inP id 1 256)):Bool) []))))) λ(t0:Bool) =>
(.br 0 t0 (.ret (0,0,false))
(.say (λR=>ck (!(length==0))
((ck (!(length==0))
R))) (.ret (W ((W (id-1)).tdiv length),(W (id-1)).tmod length,true)))))))
def AT(id:Int)(length:Int)(I0:Bool→Prop)(r0:Int×Int×Bool):=(wa id length I0).vp wb r0
theorem Rn(id len:Int)(ok:Rq id len):∃I,AT id len I (cw id len):=by
 refine⟨λb=>b=decide (¬(aJ len=true∧1≤id∧id≤256)),?_⟩
 dsimp only[AT,wa,FU,Ax.vp,Ax.vc];simp only[vcU,rfU,List.length_map]
 refine⟨⟨λc=>?_,λc=>?_⟩,?_⟩
 ·have c:aJ len=false:=by simpa using c
  simp[c]
 ·have c:aJ len=true:=by simpa using c
  rw[Bool.eq_iff_iff,gB,decide_eq_true_iff]
  simp[c]
 ·rintro _ rfl
  refine⟨λc=>?_,λc=>?_⟩
  ·rw[cw,if_neg (of_decide_eq_true c)]
  ·have c:=Classical.not_not.mp (of_decide_eq_false c)
   have hl:=bL.mp c.1
   have h0:(!(len==0))=true:=by simp;omega
   have w1:W (id-1)=id-1:=cn (by omega)
   have hd:0≤(id-1).tdiv len∧(id-1).tdiv len≤id-1:=⟨Int.tdiv_nonneg (by omega) (by omega),Int.tdiv_le_self _ (by omega)⟩
   rw[w1,cn (n:=(id-1).tdiv len) (by omega),cw,if_pos c]
   exact⟨h0,h0,rfl⟩
def Ro(id:Int)(length:Int):PC Tryz.prog:=⟨184,[.k,.k],[.int id,.int length],wb (cw id length),ao.of_ok λok=>(Rn id length ok).elim λI0 h=>aj (sh:=.k) (enc:=wb) (a:=(wa id length I0).an) h (by kernel_rfl) (AV.pureB_ok rfl),ah (by kernel_rfl)⟩
theorem AQ{id len:Int}:0≤(cw id len).2.1∧(cw id len).2.1<64∧0≤(cw id len).1∧(cw id len).1≤255:=by
 unfold cw
 split
 ·rename_i c
  have hl:=bL.mp c.1
  have h1:=Int.tmod_nonneg len (show 0≤id-1 by omega)
  have h2:=Int.tmod_lt_of_pos (id-1) (show 0<len by omega)
  have h3:0≤(id-1).tdiv len:=Int.tdiv_nonneg (by omega) (by omega)
  have h4:=Int.tdiv_le_self (b:=len) (show 0≤id-1 by omega)
  simp only;omega
 ·simp
def inK(n most:Int):Bool:=decide (0≤n) && decide (n≤most)
def inK_a(n:Int)(most:Int):=okL [.int n,.int most]
def H7(r:Bool):AV:=.bool r
def H5(n:Int)(most:Int):Ax Tryz.prog noS (Bool):=
 (.br 64 (decide (0≤n)) (.ret (decide (n≤most)))
(.ret (false)))
def H6(n:Int)(most:Int)(r0:Bool):=(H5 n most).vp H7 r0
theorem inK_p(n m:Int)(ok:inK_a n m):H6 n m (inK n m):=by
 dsimp only[H6,H5,noS,Ax.vp,Ax.vc];simp only[vcU,rfU,List.length_map]
 refine⟨λc=>?_,λc=>?_⟩<;>simp[inK,c]
def nF(n:Int)(most:Int):PC Tryz.prog:=⟨120,[.k,.k],[.int n,.int most],H7 (inK n most),ao.of_ok λok=>aj (sh:=.k) (enc:=H7) (a:=(H5 n most).an) (inK_p n most ok) (by kernel_rfl) (AV.pureB_ok rfl),ah (by kernel_rfl)⟩
def eN(len:Int):Int:=if aJ len=true then mW .u64 18446744073709551615 (64-len)else 0
def Nj(length:Int):=okL [.int length]
def qr(r:Int):AV:=.val (.int .u64 r)
def qq(length:Int):Ax Tryz.prog noS (Int):=
 (.callP (gb length)
(.br 64 (!(aJ length)) (.ret (0))
(.say (ck (decide (0≤(W (64-length))))) (.ret (mW .u64 18446744073709551615 (W (64-length)))))))
def tG(length:Int)(r0:Int):=(qq length).vp qr r0
theorem Nh(len:Int)(ok:Nj len):tG len (eN len):=by
 dsimp only[tG,qq,noS,Ax.vp,Ax.vc];simp only[vcU,rfU,List.length_map]
 refine⟨λc=>?_,λc=>?_⟩
 ·have c:aJ len=false:=by simpa using c
  rw[eN,if_neg (by rw[c];simp)]
 ·have c:aJ len=true:=by simpa using c
  have:=bL.mp c
  rw[cn (by omega),eN,if_pos c]
  exact⟨by omega,rfl⟩
def Ni(length:Int):PC Tryz.prog:=⟨170,[.k],[.int length],qr (eN length),ao.of_ok λok=>aj (sh:=.k) (enc:=qr) (a:=(qq length).an) (Nh length ok) (by kernel_rfl) (AV.pureB_ok rfl),ah (by kernel_rfl)⟩
def jf(b len:Int):Bool:=aJ len && (co .u64 b (eN len)==0)
def Qf(b:Int)(length:Int):=okL [.val (.int .u64 b),.int length]
def uZ(r:Bool):AV:=.bool r
def uY(b:Int)(length:Int):Ax Tryz.prog noS (Bool):=
 (.callP (gb length)
(.br 64 (aJ length) (.callP (Ni length)
(.ret ((co .u64 b (eN length))==0)))
(.ret (false))))
def Ai(b:Int)(length:Int)(r0:Bool):=(uY b length).vp uZ r0
theorem Qd(b len:Int)(ok:Qf b len):Ai b len (jf b len):=by
 dsimp only[Ai,uY,noS,Ax.vp,Ax.vc];simp only[vcU,rfU,List.length_map]
 refine⟨λc=>?_,λc=>?_⟩<;>rw[jf,c]<;>rfl
def Qe(b:Int)(length:Int):PC Tryz.prog:=⟨121,[.k,.k],[.val (.int .u64 b),.int length],uZ (jf b length),ao.of_ok λok=>aj (sh:=.k) (enc:=uZ) (a:=(uY b length).an) (Qd b length ok) (by kernel_rfl) (AV.pureB_ok rfl),ah (by kernel_rfl)⟩
def cN(p:Pkt):Bool:=decide (1≤p.mode) && (decide (p.mode≤3) && (inK p.sub 7 && (inK p.set 31 && (jf p.bits p.len && (inK p.ttl 63 && (inK p.ent 1023 && (inK p.ing 256 && (inK p.proto 7 && decide ((p.pay.size:Int)≤64)))))))))
def PZ(p:Pkt):=okL [.agg [.int p.mode,.int p.sub,.int p.set,.int p.len,.int p.ttl,.int p.ent,.int p.ing,.int p.proto,.val (.int .u64 p.bits),.str p.pay]]
def uU(r:Bool):AV:=.bool r
def uT(p:Pkt):Ax Tryz.prog noS (Bool):=
 (.br 96 (decide (1≤p.mode)) (.br 176 (decide (p.mode≤3)) (.callP (nF p.sub 7)
(.br 256 (inK p.sub 7) (.callP (nF p.set 31)
(.br 336 (inK p.set 31) (.callP (Qe p.bits p.len)
(.br 448 (jf p.bits p.len) (.callP (nF p.ttl 63)
(.br 528 (inK p.ttl 63) (.callP (nF p.ent 1023)
(.br 608 (inK p.ent 1023) (.callP (nF p.ing 256)
(.br 688 (inK p.ing 256) (.callP (nF p.proto 7)
(.br 768 (inK p.proto 7) (.ret (decide ((p.pay.size:Int)≤64)))
(.ret (false))))
(.ret (false))))
(.ret (false))))
(.ret (false))))
(.ret (false))))
(.ret (false))))
(.ret (false))))
(.ret (false)))
(.ret (false)))
def Ag(p:Pkt)(r0:Bool):=(uT p).vp uU r0
theorem PY(p:Pkt)(ok:PZ p):Ag p (cN p):=by
 dsimp only[Ag,uT,noS,Ax.vp,Ax.vc];simp only[vcU,rfU,List.length_map]
 unfold cN
 by_cases h1:1≤p.mode<;>by_cases h2:p.mode≤3<;>cases inK p.sub 7<;>cases inK p.set 31<;>cases jf p.bits p.len<;>cases inK p.ttl 63<;>cases inK p.ent 1023<;>cases inK p.ing 256<;>cases inK p.proto 7<;>simp[h1,h2]
def oq(p:Pkt):PC Tryz.prog:=⟨55,[.k],[.agg [.int p.mode,.int p.sub,.int p.set,.int p.len,.int p.ttl,.int p.ent,.int p.ing,.int p.proto,.val (.int .u64 p.bits),.str p.pay]],uU (cN p),ao.of_ok λok=>aj (sh:=.k) (enc:=uU) (a:=(uT p).an) (PY p ok) (by kernel_rfl) (AV.pureB_ok rfl),ah (by kernel_rfl)⟩
def atT(st b len:Int):Int×Bool:=if(aJ len=true∧(0≤b∧b≤len-1)∧0≤st∧st≤31)∧st * len+b+1≤256 then(st * len+b+1,true)else(0,false)
def atR_a(set_:Int)(bit:Int)(length:Int):=okL [.int set_,.int bit,.int length]
def UT(set_:Int)(bit:Int)(length:Int)(t0:Bool):NF:=⟨[(0,.k,.int set_),(1,.k,.int bit),(2,.k,.int length),(23,.k,.bool t0)],[]⟩
@[reducible] def PI:Nat→Type
 | 0=>Bool
 | _=>Unit
def JM(r:Int×Bool):AV:=.tup [.int r.1,.bool r.2]
def JK(set_:Int)(bit:Int)(length:Int)(I0:Bool→Prop):Ax Tryz.prog PI (Int×Bool):=
 (.pass (.pass (.join 0 (UT set_ bit length) (λ(t0:Bool)=>I0 t0) (λb0=>(.callP (iz length)
(.br 96 (!(aJ length)) (.bk 0 b0 ((true):Bool) [])
(.callP (jQ bit 0 (W (length-1)))
(.br 208 (!(inP bit 0 (W (length-1)))) (.bk 0 b0 ((true):Bool) [])
(.callP (jQ set_ 0 31)
(.bk 0 b0 ((!(inP set_ 0 31)):Bool) []))))))) λ(t0:Bool) =>
(.br 0 t0 (.ret (0,false))
(.br 144 (decide (256<(W ((W ((W (set_ * length))+bit))+1)))) (.ret (0,false))
(.ret (W ((W ((W (set_ * length))+bit))+1),true)))))))
def JL(set_:Int)(bit:Int)(length:Int)(I0:Bool→Prop)(r0:Int×Bool):=(JK set_ bit length I0).vp JM r0
theorem atR_p(st b len:Int)(ok:atR_a st b len):∃I,JL st b len I (atT st b len):=by
 refine⟨λc=>c=decide (¬(aJ len=true∧(0≤b∧b≤len-1)∧0≤st∧st≤31)),?_⟩
 dsimp only[JL,JK,PI,Ax.vp,Ax.vc];simp only[vcU,rfU,List.length_map]
 refine⟨⟨λc=>?_,λc=>?_⟩,?_⟩
 ·have c:aJ len=false:=by simpa using c
  simp[c]
 ·have c:aJ len=true:=by simpa using c
  have:=bL.mp c
  rw[cn (n:=len-1) (by omega)]
  refine⟨λd=>?_,λd=>?_⟩
  ·have d:=gB.mp d
   exact(decide_eq_true (show ¬(aJ len=true∧(0≤b∧b≤len-1)∧0≤st∧st≤31)from λq=>d q.2.1)).symm
  ·have d:=fh.mp d
   rw[Bool.eq_iff_iff,gB,decide_eq_true_iff]
   exact not_congr ⟨λq=>⟨c,d,q⟩,λq=>q.2.2⟩
 ·rintro _ rfl
  refine⟨λc=>?_,λc=>?_⟩
  ·rw[atT,if_neg λq=>of_decide_eq_true c q.1]
  ·have c:=Classical.not_not.mp (of_decide_eq_false c)
   have hl:=bL.mp c.1
   have hm:0≤st * len∧st * len≤31 * 64:=⟨Int.mul_nonneg (by omega) (by omega),Int.mul_le_mul (by omega) (by omega) (by omega) (by omega)⟩
   have w1:W (st * len)=st * len:=cn (by omega)
   have w2:W (st * len+b)=st * len+b:=cn (by omega)
   have w3:W (st * len+b+1)=st * len+b+1:=cn (by omega)
   rw[w1,w2,w3]
   refine⟨λd=>?_,λd=>?_⟩
   ·rw[atT,if_neg λq=>by have:=q.2;omega]
   ·rw[atT,if_pos ⟨c,by omega⟩]
def JN(set_:Int)(bit:Int)(length:Int):PC Tryz.prog:=⟨115,[.k,.k,.k],[.int set_,.int bit,.int length],JM (atT set_ bit length),ao.of_ok λok=>(atR_p set_ bit length ok).elim λI0 h=>aj (sh:=.k) (enc:=JM) (a:=(JK set_ bit length I0).an) h (by kernel_rfl) (AV.pureB_ok rfl),ah (by kernel_rfl)⟩
def atP_a(set_:Int)(bit:Int)(length:Int):=okL [.int set_,.int bit,.int length]
def UU(set_:Int)(bit:Int)(length:Int)(t0:Bool):NF:=⟨[(0,.k,.int set_),(1,.k,.int bit),(2,.k,.int length),(23,.k,.bool t0)],[]⟩
@[reducible] def PJ:Nat→Type
 | 0=>Bool
 | _=>Unit
def JQ(r:Int×Bool):AV:=.tup [.int r.1,.bool r.2]
def JO(set_:Int)(bit:Int)(length:Int)(I0:Bool→Prop):Ax Tryz.prog PJ (Int×Bool):=
 (.pass (.pass (.join 0 (UU set_ bit length) (λ(t0:Bool)=>I0 t0) (λb0=>(.callP (gb length)
(.br 96 (!(aJ length)) (.bk 0 b0 ((true):Bool) [])
(.callP (nE bit 0 (W (length-1)))
(.br 208 (!(inP bit 0 (W (length-1)))) (.bk 0 b0 ((true):Bool) [])
(.callP (nE set_ 0 31)
(.bk 0 b0 ((!(inP set_ 0 31)):Bool) []))))))) λ(t0:Bool) =>
(.br 0 t0 (.ret (0,false))
(.br 144 (decide (256<(W ((W ((W (set_ * length))+bit))+1)))) (.ret (0,false))
(.ret (W ((W ((W (set_ * length))+bit))+1),true)))))))
def JP(set_:Int)(bit:Int)(length:Int)(I0:Bool→Prop)(r0:Int×Bool):=(JO set_ bit length I0).vp JQ r0
theorem atP_p(st b len:Int)(ok:atP_a st b len):∃I,JP st b len I (atT st b len):=by
 refine⟨λc=>c=decide (¬(aJ len=true∧(0≤b∧b≤len-1)∧0≤st∧st≤31)),?_⟩
 dsimp only[JP,JO,PJ,Ax.vp,Ax.vc];simp only[vcU,rfU,List.length_map]
 refine⟨⟨λc=>?_,λc=>?_⟩,?_⟩
 ·have c:aJ len=false:=by simpa using c
  simp[c]
 ·have c:aJ len=true:=by simpa using c
  have:=bL.mp c
  rw[cn (n:=len-1) (by omega)]
  refine⟨λd=>?_,λd=>?_⟩
  ·have d:=gB.mp d
   exact(decide_eq_true (show ¬(aJ len=true∧(0≤b∧b≤len-1)∧0≤st∧st≤31)from λq=>d q.2.1)).symm
  ·have d:=fh.mp d
   rw[Bool.eq_iff_iff,gB,decide_eq_true_iff]
   exact not_congr ⟨λq=>⟨c,d,q⟩,λq=>q.2.2⟩
 ·rintro _ rfl
  refine⟨λc=>?_,λc=>?_⟩
  ·rw[atT,if_neg λq=>of_decide_eq_true c q.1]
  ·have c:=Classical.not_not.mp (of_decide_eq_false c)
   have hl:=bL.mp c.1
   have hm:0≤st * len∧st * len≤31 * 64:=⟨Int.mul_nonneg (by omega) (by omega),Int.mul_le_mul (by omega) (by omega) (by omega) (by omega)⟩
   have w1:W (st * len)=st * len:=cn (by omega)
   have w2:W (st * len+b)=st * len+b:=cn (by omega)
   have w3:W (st * len+b+1)=st * len+b+1:=cn (by omega)
   rw[w1,w2,w3]
   refine⟨λd=>?_,λd=>?_⟩
   ·rw[atT,if_neg λq=>by have:=q.2;omega]
   ·rw[atT,if_pos ⟨c,by omega⟩]
def PK(set_:Int)(bit:Int)(length:Int):PC Tryz.prog:=⟨45,[.k,.k,.k],[.int set_,.int bit,.int length],JQ (atT set_ bit length),ao.of_ok λok=>(atP_p set_ bit length ok).elim λI0 h=>aj (sh:=.k) (enc:=JQ) (a:=(JO set_ bit length I0).an) h (by kernel_rfl) (AV.pureB_ok rfl),ah (by kernel_rfl)⟩
abbrev Rm:=cw
def Rl(id:Int)(length:Int):=okL [.int id,.int length]
def Lx(id:Int)(length:Int)(t0:Bool):NF:=⟨[(0,.k,.int id),(1,.k,.int length),(14,.k,.bool t0)],[]⟩
@[reducible] def FS:Nat→Type
 | 0=>Bool
 | _=>Unit
def vZ(r:Int×Int×Bool):AV:=.tup [.int r.1,.int r.2.1,.bool r.2.2]
def vY(id:Int)(length:Int)(I0:Bool→Prop):Ax Tryz.prog FS (Int×Int×Bool):=
 (.pass (.pass (.join 0 (Lx id length) (λ(t0:Bool)=>I0 t0) (λb0=>(.callP (iz length)
(.br 112 (!(aJ length)) (.bk 0 b0 ((true):Bool) [])
(.callP (jQ id 1 256)
(.bk 0 b0 ((!(inP id 1 256)):Bool) []))))) λ(t0:Bool) =>
(.br 0 t0 (.ret (0,0,false))
(.say (λR=>ck (!(length==0))
((ck (!(length==0))
R))) (.ret (W ((W (id-1)).tdiv length),(W (id-1)).tmod length,true)))))))
def AS(id:Int)(length:Int)(I0:Bool→Prop)(r0:Int×Int×Bool):=(vY id length I0).vp vZ r0
theorem Rk(id len:Int)(ok:Rl id len):∃I,AS id len I (Rm id len):=by
 refine⟨λb=>b=decide (¬(aJ len=true∧1≤id∧id≤256)),?_⟩
 dsimp only[AS,vY,FS,Ax.vp,Ax.vc];simp only[vcU,rfU,List.length_map]
 refine⟨⟨λc=>?_,λc=>?_⟩,?_⟩
 ·have c:aJ len=false:=by simpa using c
  simp[c]
 ·have c:aJ len=true:=by simpa using c
  rw[Bool.eq_iff_iff,gB,decide_eq_true_iff]
  simp[c]
 ·rintro _ rfl
  refine⟨λc=>?_,λc=>?_⟩
  ·rw[Rm,cw,if_neg (of_decide_eq_true c)]
  ·have c:=Classical.not_not.mp (of_decide_eq_false c)
   have hl:=bL.mp c.1
   have h0:(!(len==0))=true:=by simp;omega
   have w1:W (id-1)=id-1:=cn (by omega)
   have hd:0≤(id-1).tdiv len∧(id-1).tdiv len≤id-1:=⟨Int.tdiv_nonneg (by omega) (by omega),Int.tdiv_le_self _ (by omega)⟩
   rw[w1,cn (n:=(id-1).tdiv len) (by omega),Rm,cw,if_pos c]
   exact⟨h0,h0,rfl⟩
def FT(id:Int)(length:Int):PC Tryz.prog:=⟨35,[.k,.k],[.int id,.int length],vZ (cw id length),ao.of_ok λok=>(Rk id length ok).elim λI0 h=>aj (sh:=.k) (enc:=vZ) (a:=(vY id length I0).an) h (by kernel_rfl) (AV.pureB_ok rfl),ah (by kernel_rfl)⟩
def bB(k:Int):Int:=if k<0∨63<k then 0 else gX .u64 1 k
def UM(k:Int):=okL [.int k]
def OW(k:Int)(t0:Bool):NF:=⟨[(0,.k,.int k),(8,.k,.bool t0)],[]⟩
@[reducible] def JE:Nat→Type
 | 0=>Bool
 | _=>Unit
def zI(r:Int):AV:=.val (.int .u64 r)
def zH(k:Int)(I0:Bool→Prop):Ax Tryz.prog JE (Int):=
 (.pass (.pass (.join 0 (OW k) (λ(t0:Bool)=>I0 t0) (λb0=>(.br 64 (decide (k<0)) (.bk 0 b0 ((true):Bool) [])
(.bk 0 b0 ((decide (63<k)):Bool) []))) λ(t0:Bool) =>
(.br 0 t0 (.ret (0))
(.say (ck (decide (0≤(IntKind.u64.wrap k)))) (.ret (gX .u64 1 (IntKind.u64.wrap k))))))))
def De(k:Int)(I0:Bool→Prop)(r0:Int):=(zH k I0).vp zI r0
theorem UL(k:Int)(ok:UM k):∃I,De k I (bB k):=by
 refine⟨λb=>b=decide (k<0∨63<k),?_⟩
 dsimp only[De,zH,JE,Ax.vp,Ax.vc];simp only[vcU,rfU,List.length_map]
 refine⟨⟨λc=>by simp[c],λc=>by simp[c]⟩,?_⟩
 rintro _ rfl
 refine⟨λc=>?_,λc=>?_⟩
 ·rw[bB,if_pos (of_decide_eq_true c)]
 ·have c:=of_decide_eq_false c
  have:=dO (n:=k.toNat) (by omega)
  rw[Int.toNat_of_nonneg (by omega)]at this
  rw[this,bB,if_neg c]
  exact⟨by omega,rfl⟩
def iW(k:Int):PC Tryz.prog:=⟨36,[.k],[.int k],zI (bB k),ao.of_ok λok=>(UL k ok).elim λI0 h=>aj (sh:=.k) (enc:=zI) (a:=(zH k I0).an) h (by kernel_rfl) (AV.pureB_ok rfl),ah (by kernel_rfl)⟩
abbrev insK:=inK
def SF(n:Int)(most:Int):=okL [.int n,.int most]
def xt(r:Bool):AV:=.bool r
def xr(n:Int)(most:Int):Ax Tryz.prog noS (Bool):=
 (.br 64 (decide (0≤n)) (.ret (decide (n≤most)))
(.ret (false)))
def BL(n:Int)(most:Int)(r0:Bool):=(xr n most).vp xt r0
theorem SD(n m:Int)(ok:SF n m):BL n m (insK n m):=by
 dsimp only[BL,xr,noS,Ax.vp,Ax.vc];simp only[vcU,rfU,List.length_map]
 refine⟨λc=>?_,λc=>?_⟩<;>simp[insK,inK,c]
def jR(n:Int)(most:Int):PC Tryz.prog:=⟨130,[.k,.k],[.int n,.int most],xt (inK n most),ao.of_ok λok=>aj (sh:=.k) (enc:=xt) (a:=(xr n most).an) (SD n most ok) (by kernel_rfl) (AV.pureB_ok rfl),ah (by kernel_rfl)⟩
def Ng(length:Int):=okL [.int length]
def Ib(length:Int)(t0:Int×Int):NF:=⟨[(0,.k,.int length),(3,.k,.val (.int .u64 t0.1)),(4,.k,.int t0.2)],[]⟩
@[reducible] def Ci:Nat→Type
 | 0=>Int×Int
 | _=>Unit
def qp(r:Int):AV:=.val (.int .u64 r)
def qo(length:Int)(I0:(Int×Int)→Prop)(m0:(Int×Int)→Nat):Ax Tryz.prog Ci (Int):=
 (.callP (iz length)
(.br 64 (!(aJ length)) (.ret (0))
(.loop 0 (Ib length) I0 m0 (0,0) [] λ(t0:Int×Int) b0 =>
(.br 48 (decide (t0.2<length)) (.callP (iW t0.2)
(.bk 0 b0 (bOr .u64 t0.1 (bB t0.2),W (t0.2+1)) []))
(.ret (t0.1))))))
def tF(length:Int)(I0:(Int×Int)→Prop)(m0:(Int×Int)→Nat)(r0:Int):=(qo length I0 m0).vp qp r0
theorem RC:∀k<64,(2 ^ k-1) ||| 2 ^ k=2 ^ (k+1)-1:=by decide +kernel
theorem Nd(len:Int)(ok:Ng len):∃I m,tF len I m (eN len):=by
 refine⟨λt=>∃k:Nat,t.2=k∧k≤len.toNat∧t.1=((2 ^ k-1:Nat):Int),λt=>len.toNat-t.2.toNat,?_⟩
 dsimp only[tF,qo,Ci,Ax.vp,Ax.vc];simp only[vcU,rfU,List.length_map]
 refine⟨λc=>?_,λc=>⟨⟨0,rfl,by omega,rfl⟩,?_⟩⟩
 ·have c:aJ len=false:=by simpa using c
  rw[eN,if_neg (by rw[c];simp)]
 have c:aJ len=true:=by simpa using c
 have hv:=bL.mp c
 rintro⟨b,_⟩ ⟨k,rfl,hk,rfl⟩
 simp only at hk ⊢
 refine⟨λd=>?_,λd=>?_⟩
 ·have h2:2 ^ k-1<18446744073709551616:=Nat.lt_of_le_of_lt (Nat.sub_le _ _) (Nat.pow_lt_pow_right (n:=64) (by omega) (by omega))
  have h3:2 ^ k<18446744073709551616:=Nat.pow_lt_pow_right (n:=64) (by omega) (by omega)
  rw[aU (n:=len.toNat) (by omega) (by omega),bB,if_neg (by omega),lw (by omega),li h2 h3,RC k (by omega)]
  exact⟨⟨k+1,rfl,by omega,rfl⟩,by omega⟩
 ·have:(k:Int)=len:=by omega
  subst this
  rw[eN,if_pos c]
  have hk:k=8∨k=16∨k=32∨k=64:=by omega
  rcases hk with rfl|rfl|rfl|rfl<;>decide +kernel
def Cj(length:Int):PC Tryz.prog:=⟨87,[.k],[.int length],qp (eN length),ao.of_ok λok=>(Nd length ok).elim λI0 h=>h.elim λm0 h=>aj (sh:=.k) (enc:=qp) (a:=(qo length I0 m0).an) h (by kernel_rfl) (AV.pureB_ok rfl),ah (by kernel_rfl)⟩
abbrev vbtR:=jf
def Qc(b:Int)(length:Int):=okL [.val (.int .u64 b),.int length]
def uX(r:Bool):AV:=.bool r
def uW(b:Int)(length:Int):Ax Tryz.prog noS (Bool):=
 (.callP (iz length)
(.br 64 (aJ length) (.callP (Cj length)
(.ret ((co .u64 b (eN length))==0)))
(.ret (false))))
def Ah(b:Int)(length:Int)(r0:Bool):=(uW b length).vp uX r0
theorem Qa(b len:Int)(ok:Qc b len):Ah b len (vbtR b len):=by
 dsimp only[Ah,uW,noS,Ax.vp,Ax.vc];simp only[vcU,rfU,List.length_map]
 refine⟨λc=>?_,λc=>?_⟩<;>rw[vbtR,jf,c]<;>rfl
def Qb(b:Int)(length:Int):PC Tryz.prog:=⟨131,[.k,.k],[.val (.int .u64 b),.int length],uX (jf b length),ao.of_ok λok=>aj (sh:=.k) (enc:=uX) (a:=(uW b length).an) (Qa b length ok) (by kernel_rfl) (AV.pureB_ok rfl),ah (by kernel_rfl)⟩
def PX(p:Pkt):=okL [.agg [.int p.mode,.int p.sub,.int p.set,.int p.len,.int p.ttl,.int p.ent,.int p.ing,.int p.proto,.val (.int .u64 p.bits),.str p.pay]]
def uR(r:Bool):AV:=.bool r
def uQ(p:Pkt):Ax Tryz.prog noS (Bool):=
 (.br 96 (decide (1≤p.mode)) (.br 176 (decide (p.mode≤3)) (.callP (jR p.sub 7)
(.br 256 (inK p.sub 7) (.callP (jR p.set 31)
(.br 336 (inK p.set 31) (.callP (Qb p.bits p.len)
(.br 448 (jf p.bits p.len) (.callP (jR p.ttl 63)
(.br 528 (inK p.ttl 63) (.callP (jR p.ent 1023)
(.br 608 (inK p.ent 1023) (.callP (jR p.ing 256)
(.br 688 (inK p.ing 256) (.callP (jR p.proto 7)
(.br 768 (inK p.proto 7) (.ret (decide ((p.pay.size:Int)≤64)))
(.ret (false))))
(.ret (false))))
(.ret (false))))
(.ret (false))))
(.ret (false))))
(.ret (false))))
(.ret (false))))
(.ret (false)))
(.ret (false)))
def Af(p:Pkt)(r0:Bool):=(uQ p).vp uR r0
theorem PW(p:Pkt)(ok:PX p):Af p (cN p):=by
 dsimp only[Af,uQ,noS,Ax.vp,Ax.vc];simp only[vcU,rfU,List.length_map]
 unfold cN
 by_cases h1:1≤p.mode<;>by_cases h2:p.mode≤3<;>cases inK p.sub 7<;>cases inK p.set 31<;>cases jf p.bits p.len<;>cases inK p.ttl 63<;>cases inK p.ent 1023<;>cases inK p.ing 256<;>cases inK p.proto 7<;>simp[h1,h2]
def uS(p:Pkt):PC Tryz.prog:=⟨67,[.k],[.agg [.int p.mode,.int p.sub,.int p.set,.int p.len,.int p.ttl,.int p.ent,.int p.ing,.int p.proto,.val (.int .u64 p.bits),.str p.pay]],uR (cN p),ao.of_ok λok=>aj (sh:=.k) (enc:=uR) (a:=(uQ p).an) (PW p ok) (by kernel_rfl) (AV.pureB_ok rfl),ah (by kernel_rfl)⟩
abbrev inTb:=inP
def SH(n:Int)(least:Int)(most:Int):=okL [.int n,.int least,.int most]
def xx(r:Bool):AV:=.bool r
def xw(n:Int)(least:Int)(most:Int):Ax Tryz.prog noS (Bool):=
 (.br 80 (decide (least≤n)) (.ret (decide (n≤most)))
(.ret (false)))
def BO(n:Int)(least:Int)(most:Int)(r0:Bool):=(xw n least most).vp xx r0
theorem SG(n a b:Int)(ok:SH n a b):BO n a b (inTb n a b):=by
 dsimp only[BO,xw,noS,Ax.vp,Ax.vc];simp only[vcU,rfU,List.length_map]
 refine⟨λc=>?_,λc=>?_⟩<;>simp[inTb,inP,c]
def jT(n:Int)(least:Int)(most:Int):PC Tryz.prog:=⟨142,[.k,.k,.k],[.int n,.int least,.int most],xx (inP n least most),ao.of_ok λok=>aj (sh:=.k) (enc:=xx) (a:=(xw n least most).an) (SG n least most ok) (by kernel_rfl) (AV.pureB_ok rfl),ah (by kernel_rfl)⟩
abbrev Hn:=inP
def Hm(n:Int)(low:Int)(high:Int):=okL [.int n,.int low,.int high]
def ma(r:Bool):AV:=.bool r
def lZ(n:Int)(low:Int)(high:Int):Ax Tryz.prog noS (Bool):=
 (.br 80 (decide (low≤n)) (.ret (decide (n≤high)))
(.ret (false)))
def n9(n:Int)(low:Int)(high:Int)(r0:Bool):=(lZ n low high).vp ma r0
theorem Hl(n a b:Int)(ok:Hm n a b):n9 n a b (Hn n a b):=by
 dsimp only[n9,lZ,noS,Ax.vp,Ax.vc];simp only[vcU,rfU,List.length_map]
 refine⟨λc=>?_,λc=>?_⟩<;>simp[Hn,inP,c]
def jz(n:Int)(low:Int)(high:Int):PC Tryz.prog:=⟨158,[.k,.k,.k],[.int n,.int low,.int high],ma (inP n low high),ao.of_ok λok=>aj (sh:=.k) (enc:=ma) (a:=(lZ n low high).an) (Hl n low high ok) (by kernel_rfl) (AV.pureB_ok rfl),ah (by kernel_rfl)⟩
def iY(l:List Int):Bool:=decide (l.Pairwise (·<·))
def UY(l:List Int):=okL [.sl 1 (l.map AV.int) false]
def Pe(l:List Int)(t0:Int):NF:=⟨[(0,.k,.sl 1 (l.map AV.int) false),(5,.k,.int ((l.map AV.int).length:Int)),(6,.k,.int t0)],[]⟩
def Pd(l:List Int)(t0:Int)(t1:Bool):NF:=⟨[(0,.k,.sl 1 (l.map AV.int) false),(5,.k,.int ((l.map AV.int).length:Int)),(6,.k,.int t0),(22,.k,.bool t1)],[]⟩
@[reducible] def JV:Nat→Type
 | 0=>Int
 | 1=>Bool
 | _=>Unit
def zP(r:Bool):AV:=.bool r
def zO(l:List Int)(I0:Int→Prop)(m0:Int→Nat)(I1:Int→Bool→Prop):Ax Tryz.prog JV (Bool):=
 (.loop 0 (Pe l) I0 m0 ((0):Int) [] λ(t0:Int) b0 =>
(.br 16 (decide (t0<((l.map AV.int).length:Int))) (.pass (.pass (.join 1 (Pd l t0) (λ(t1:Bool)=>I1 t0 t1) (λb1=>(.br 96 (decide (0<t0)) (.el 144 AV.int l (λR=>Rf (l.map AV.int) (ck (decide (0≤(W (t0-1)))) (ck (decide ((W (t0-1))<(l.length:Int)))
(∀x1,l[(W (t0-1)).toNat]?=some x1 →
(R x1))))) λx1 =>
(.el 208 AV.int l (λR=>Rf (l.map AV.int) (ck (decide (0≤t0)) (ck (decide (t0<(l.length:Int)))
(∀x2,l[t0.toNat]?=some x2 →
(R x2))))) λx2 =>
(.bk 1 b1 ((decide (x2≤x1)):Bool) [])))
(.bk 1 b1 ((false):Bool) []))) λ(t1:Bool) =>
(.br 0 t1 (.ret (false))
(.bk 0 b0 ((W (t0+1)):Int) [])))))
(.ret (true))))
def Dj(l:List Int)(I0:Int→Prop)(m0:Int→Nat)(I1:Int→Bool→Prop)(r0:Bool):=(zO l I0 m0 I1).vp zP r0
theorem UW(l:List Int)(h:l.length≤1000000)(ok:UY l):∃I0 m0 I1,Dj l I0 m0 I1 (iY l):=by
 refine⟨λi=>dU l (λx y=>x<y) i,λi=>l.length-i.toNat,λi b=>b=true↔0<i∧∃x y,l[(W (i-1)).toNat]?=some x∧l[i.toNat]?=some y∧¬x<y,?_⟩
 have hl:=h
 clear h
 dsimp only[Dj,zO,JV,Ax.vp,Ax.vc];simp only[vcU,rfU,List.length_map]
 refine⟨dU.zero,λi h=>⟨λc1=>⟨⟨λh0=>?_,λh0=>?_⟩,λb hb=>?_⟩,λc1=>?_⟩⟩
 ·obtain⟨g1,g2⟩:=h.rng (by omega) h0 c1
  refine⟨g1,g2,λx hx=>⟨h.idx,c1,λy hy=>⟨λe=>⟨h0,x,y,hx,hy,by omega⟩,?_⟩⟩⟩
  rintro⟨_,x',y',hx',hy',p⟩
  rw[hx]at hx';cases hx';rw[hy]at hy';cases hy';omega
 ·exact⟨nofun,λe=>absurd e.1 h0⟩
 ·obtain⟨n1,n2⟩:=h.next (by omega) c1 hb
  exact⟨λe=>by rw[iY,decide_eq_false (n1 e)],n2⟩
 ·rw[iY,decide_eq_true (h.done c1 λ_ _ _ q r=>Int.lt_trans q r)]
def UX(l:List Int)(h:l.length≤1000000):PC Tryz.prog:=⟨146,[(.s 1)],[.sl 1 (l.map AV.int) false],zP (iY l),ao.of_ok λok=>(UW l h ok).elim λI0 h=>h.elim λm0 h=>h.elim λI1 h=>aj (sh:=.k) (enc:=zP) (a:=(zO l I0 m0 I1).an) h (by kernel_rfl) (AV.pureB_ok rfl),ah (by kernel_rfl)⟩
def kJ(n:Int):Bool:=!inP n 1 99
def R6(n:Int):=okL [.int n]
def wu(r:Bool):AV:=.bool r
def wt(n:Int):Ax Tryz.prog noS (Bool):=
 (.callP (jT n 1 99)
(.ret (!(inP n 1 99))))
def Bf(n:Int)(r0:Bool):=(wt n).vp wu r0
theorem R4(n:Int)(ok:R6 n):Bf n (kJ n):=by
 dsimp only[Bf,wt,noS,Ax.vp,Ax.vc];simp only[vcU,rfU,List.length_map]
 rfl
def R5(n:Int):PC Tryz.prog:=⟨183,[.k],[.int n],wu (kJ n),ao.of_ok λok=>aj (sh:=.k) (enc:=wu) (a:=(wt n).an) (R4 n ok) (by kernel_rfl) (AV.pureB_ok rfl),ah (by kernel_rfl)⟩
def Bh(s:List Int):=okL [.sl 1 (s.map AV.int) false,.func 183 []]
def Gl(s:List Int)(t0:Int):NF:=⟨[(0,.k,.sl 1 (s.map AV.int) false),(1,.k,.func 183 []),(7,.k,.int ((s.map AV.int).length:Int)),(8,.k,.int t0)],[]⟩
@[reducible] def Bg:Nat→Type
 | 0=>Int
 | _=>Unit
def po(r:Int):AV:=.int r
def pn(s:List Int)(I0:Int→Prop)(m0:Int→Nat):Ax Tryz.prog Bg (Int):=
 (.loop 0 (Gl s) I0 m0 ((0):Int) [] λ(t0:Int) b0 =>
(.br 16 (decide (t0<((s.map AV.int).length:Int))) (.el 96 AV.int s (λR=>Rf (s.map AV.int) (ck (decide (0≤t0)) (ck (decide (t0<(s.length:Int)))
(∀x1,s[t0.toNat]?=some x1 →
(R x1))))) λx1 =>
(.callP (R5 x1)
(.br 144 (kJ x1) (.ret (t0))
(.bk 0 b0 ((W (t0+1)):Int) []))))
(.ret (-1))))
def sG(s:List Int)(I0:Int→Prop)(m0:Int→Nat)(r0:Int):=(pn s I0 m0).vp po r0
theorem LK(s:List Int)(ok:Bh s):∃I m,sG s I m (ci kJ s):=by
 refine⟨λt=>aG s (λy=>kJ y=false) t,λt=>s.length-t.toNat,?_⟩
 simp only[Bh,okU,Blk.ok,az,List.length_map]at ok
 dsimp only[sG,pn,Bg,Ax.vp,Ax.vc];simp only[vcU,rfU,List.length_map]
 exact⟨aG.zero,λt h=>⟨λc=>⟨h.idx,c,λx hx=>⟨λq=>h.found hx q,λq=>h.step (by omega) hx q⟩⟩,λc=>h.lost c⟩⟩
def LL(s:List Int):PC Tryz.prog:=⟨194,[(.s 1),.k],[.sl 1 (s.map AV.int) false,.func 183 []],po (ci kJ s),ao.of_ok λok=>(LK s ok).elim λI0 h=>h.elim λm0 h=>aj (sh:=.k) (enc:=po) (a:=(pn s I0 m0).an) h (by kernel_rfl) (AV.pureB_ok rfl),ah (by kernel_rfl)⟩
def LO(s:List Int):=okL [.sl 1 (s.map AV.int) false,.func 183 []]
def pr(r:Bool):AV:=.bool r
def pq(s:List Int):Ax Tryz.prog noS (Bool):=
 (.callP (LL s)
(.ret (decide (0≤(ci kJ s)))))
def sH(s:List Int)(r0:Bool):=(pq s).vp pr r0
theorem LM(s:List Int)(ok:LO s):sH s (s.any kJ):=by
 dsimp only[sH,pq,noS,Ax.vp,Ax.vc];simp only[vcU,rfU,List.length_map]
 exact dc _ _
def LN(s:List Int):PC Tryz.prog:=⟨182,[(.s 1),.k],[.sl 1 (s.map AV.int) false,.func 183 []],pr (s.any kJ),ao.of_ok λok=>aj (sh:=.k) (enc:=pr) (a:=(pq s).an) (LM s ok) (by kernel_rfl) (AV.pureB_ok rfl),ah (by kernel_rfl)⟩
def iQ(r:Rw):Bool:=!inP r.id 1 256 || r.nx.any kJ
def R3(r:Rw):=okL [.agg [.int r.id,.sl 1 (r.nx.map AV.int) false]]
def ws(r:Bool):AV:=.bool r
def wq(r:Rw):Ax Tryz.prog noS (Bool):=
 (.callP (jT r.id 1 256)
(.br 112 (!(inP r.id 1 256)) (.ret (true))
(.callP (LN r.nx)
(.ret ((r.nx).any kJ)))))
def Bb(r:Rw)(r0:Bool):=(wq r).vp ws r0
theorem R1(r:Rw)(ok:R3 r):Bb r (iQ r):=by
 dsimp only[Bb,wq,noS,Ax.vp,Ax.vc];simp only[vcU,rfU,List.length_map]
 unfold iQ
 exact⟨λh=>by rw[h];rfl,λh=>by rw[h];rfl⟩
def R2(r:Rw):PC Tryz.prog:=⟨144,[(.a [.k,(.s 1)])],[.agg [.int r.id,.sl 1 (r.nx.map AV.int) false]],ws (iQ r),ao.of_ok λok=>aj (sh:=.k) (enc:=ws) (a:=(wq r).an) (R1 r ok) (by kernel_rfl) (AV.pureB_ok rfl),ah (by kernel_rfl)⟩
def Bd(s:List Rw):=okL [.sl 2 (s.map Rw.v) false,.func 144 []]
def Gk(s:List Rw)(t0:Int):NF:=⟨[(0,.k,.sl 2 (s.map Rw.v) false),(1,.k,.func 144 []),(7,.k,.int ((s.map Rw.v).length:Int)),(8,.k,.int t0)],[]⟩
@[reducible] def Bc:Nat→Type
 | 0=>Int
 | _=>Unit
def pg(r:Int):AV:=.int r
def pf(s:List Rw)(I0:Int→Prop)(m0:Int→Nat):Ax Tryz.prog Bc (Int):=
 (.loop 0 (Gk s) I0 m0 ((0):Int) [] λ(t0:Int) b0 =>
(.br 16 (decide (t0<((s.map Rw.v).length:Int))) (.el 96 Rw.v s (λR=>Rf (s.map Rw.v) (ck (decide (0≤t0)) (ck (decide (t0<(s.length:Int)))
(∀x1,s[t0.toNat]?=some x1 →
(R x1))))) λx1 =>
(.callP (R2 x1)
(.br 144 (iQ x1) (.ret (t0))
(.bk 0 b0 ((W (t0+1)):Int) []))))
(.ret (-1))))
def sE(s:List Rw)(I0:Int→Prop)(m0:Int→Nat)(r0:Int):=(pf s I0 m0).vp pg r0
theorem LG(s:List Rw)(ok:Bd s):∃I m,sE s I m (ci iQ s):=by
 refine⟨λt=>aG s (λy=>iQ y=false) t,λt=>s.length-t.toNat,?_⟩
 simp only[Bd,okU,Blk.ok,az,List.length_map]at ok
 dsimp only[sE,pf,Bc,Ax.vp,Ax.vc];simp only[vcU,rfU,List.length_map]
 exact⟨aG.zero,λt h=>⟨λc=>⟨h.idx,c,λx hx=>⟨λq=>h.found hx q,λq=>h.step (by omega) hx q⟩⟩,λc=>h.lost c⟩⟩
def LH(s:List Rw):PC Tryz.prog:=⟨181,[(.s 2),.k],[.sl 2 (s.map Rw.v) false,.func 144 []],pg (ci iQ s),ao.of_ok λok=>(LG s ok).elim λI0 h=>h.elim λm0 h=>aj (sh:=.k) (enc:=pg) (a:=(pf s I0 m0).an) h (by kernel_rfl) (AV.pureB_ok rfl),ah (by kernel_rfl)⟩
def LJ(s:List Rw):=okL [.sl 2 (s.map Rw.v) false,.func 144 []]
def pj(r:Bool):AV:=.bool r
def ph(s:List Rw):Ax Tryz.prog noS (Bool):=
 (.callP (LH s)
(.ret (decide (0≤(ci iQ s)))))
def sF(s:List Rw)(r0:Bool):=(ph s).vp pj r0
theorem LI(s:List Rw)(ok:LJ s):sF s (s.any iQ):=by
 dsimp only[sF,ph,noS,Ax.vp,Ax.vc];simp only[vcU,rfU,List.length_map]
 exact dc _ _
def pm(s:List Rw):PC Tryz.prog:=⟨143,[(.s 2),.k],[.sl 2 (s.map Rw.v) false,.func 144 []],pj (s.any iQ),ao.of_ok λok=>aj (sh:=.k) (enc:=pj) (a:=(ph s).an) (LI s ok) (by kernel_rfl) (AV.pureB_ok rfl),ah (by kernel_rfl)⟩
def gP(r:Rw):Bool:=decide (24<r.nx.length)
def S5(r:Rw):=okL [.agg [.int r.id,.sl 1 (r.nx.map AV.int) false]]
def xf(r:Bool):AV:=.bool r
def xe(r:Rw):Ax Tryz.prog noS (Bool):=
 (.ret (decide (24<((r.nx.map AV.int).length:Int))))
def B9(r:Rw)(r0:Bool):=(xe r).vp xf r0
theorem S1(r:Rw)(ok:S5 r):B9 r (gP r):=by
 dsimp only[B9,xe,noS,Ax.vp,Ax.vc];simp only[vcU,rfU,List.length_map]
 unfold gP
 exact decide_eq_decide.mpr (by omega)
def S4(r:Rw):PC Tryz.prog:=⟨145,[(.a [.k,(.s 1)])],[.agg [.int r.id,.sl 1 (r.nx.map AV.int) false]],xf (gP r),ao.of_ok λok=>aj (sh:=.k) (enc:=xf) (a:=(xe r).an) (S1 r ok) (by kernel_rfl) (AV.pureB_ok rfl),ah (by kernel_rfl)⟩
def BB(s:List Rw):=okL [.sl 2 (s.map Rw.v) false,.func 145 []]
def GZ(s:List Rw)(t0:Int):NF:=⟨[(0,.k,.sl 2 (s.map Rw.v) false),(1,.k,.func 145 []),(7,.k,.int ((s.map Rw.v).length:Int)),(8,.k,.int t0)],[]⟩
@[reducible] def BA:Nat→Type
 | 0=>Int
 | _=>Unit
def pV(r:Int):AV:=.int r
def pU(s:List Rw)(I0:Int→Prop)(m0:Int→Nat):Ax Tryz.prog BA (Int):=
 (.loop 0 (GZ s) I0 m0 ((0):Int) [] λ(t0:Int) b0 =>
(.br 16 (decide (t0<((s.map Rw.v).length:Int))) (.el 96 Rw.v s (λR=>Rf (s.map Rw.v) (ck (decide (0≤t0)) (ck (decide (t0<(s.length:Int)))
(∀x1,s[t0.toNat]?=some x1 →
(R x1))))) λx1 =>
(.callP (S4 x1)
(.br 144 (gP x1) (.ret (t0))
(.bk 0 b0 ((W (t0+1)):Int) []))))
(.ret (-1))))
def sW(s:List Rw)(I0:Int→Prop)(m0:Int→Nat)(r0:Int):=(pU s I0 m0).vp pV r0
theorem M0(s:List Rw)(ok:BB s):∃I m,sW s I m (ci gP s):=by
 refine⟨λt=>aG s (λy=>gP y=false) t,λt=>s.length-t.toNat,?_⟩
 simp only[BB,okU,Blk.ok,az,List.length_map]at ok
 dsimp only[sW,pU,BA,Ax.vp,Ax.vc];simp only[vcU,rfU,List.length_map]
 exact⟨aG.zero,λt h=>⟨λc=>⟨h.idx,c,λx hx=>⟨λq=>h.found hx q,λq=>h.step (by omega) hx q⟩⟩,λc=>h.lost c⟩⟩
def M1(s:List Rw):PC Tryz.prog:=⟨181,[(.s 2),.k],[.sl 2 (s.map Rw.v) false,.func 145 []],pV (ci gP s),ao.of_ok λok=>(M0 s ok).elim λI0 h=>h.elim λm0 h=>aj (sh:=.k) (enc:=pV) (a:=(pU s I0 m0).an) h (by kernel_rfl) (AV.pureB_ok rfl),ah (by kernel_rfl)⟩
def M3(s:List Rw):=okL [.sl 2 (s.map Rw.v) false,.func 145 []]
def pX(r:Bool):AV:=.bool r
def pW(s:List Rw):Ax Tryz.prog noS (Bool):=
 (.callP (M1 s)
(.ret (decide (0≤(ci gP s)))))
def sX(s:List Rw)(r0:Bool):=(pW s).vp pX r0
theorem M2(s:List Rw)(ok:M3 s):sX s (s.any gP):=by
 dsimp only[sX,pW,noS,Ax.vp,Ax.vc];simp only[vcU,rfU,List.length_map]
 exact dc _ _
def BC(s:List Rw):PC Tryz.prog:=⟨143,[(.s 2),.k],[.sl 2 (s.map Rw.v) false,.func 145 []],pX (s.any gP),ao.of_ok λok=>aj (sh:=.k) (enc:=pX) (a:=(pW s).an) (M2 s ok) (by kernel_rfl) (AV.pureB_ok rfl),ah (by kernel_rfl)⟩
def gR(r:Rw)(b:Tbl):Bool:=decide (1<r.nx.length) && decide (b.router∈r.nx)
def Us(r:Rw)(b:Tbl):=okL [.agg [.int r.id,.sl 1 (r.nx.map AV.int) false],.rptr (.agg [.int b.router,.int b.sub,.int b.len,.sl 2 (b.rows.map Rw.v) false]) 0]
def zg(r:Bool):AV:=.bool r
def zf(r:Rw)(b:Tbl):Ax Tryz.prog noS (Bool):=
 (.br 112 (decide (1<((r.nx.map AV.int).length:Int))) (.callP (jA r.nx b.router)
(.ret (decide (b.router∈r.nx))))
(.ret (false)))
def CL(r:Rw)(b:Tbl)(r0:Bool):=(zf r b).vp zg r0
theorem Uq(r:Rw)(b:Tbl)(ok:Us r b):CL r b (gR r b):=by
 dsimp only[CL,zf,noS,Ax.vp,Ax.vc];simp only[vcU,rfU,List.length_map]
 unfold gR
 refine⟨λh=>?_,λh=>?_⟩
 ·rw[decide_eq_true (show 1<r.nx.length by omega)];rfl
 ·rw[decide_eq_false (show ¬1<r.nx.length by omega)];rfl
def Ur(r:Rw)(b:Tbl):PC Tryz.prog:=⟨147,[(.a [.k,(.s 1)]),.k],[.agg [.int r.id,.sl 1 (r.nx.map AV.int) false],.rptr (.agg [.int b.router,.int b.sub,.int b.len,.sl 2 (b.rows.map Rw.v) false]) 0],zg (gR r b),ao.of_ok λok=>aj (sh:=.k) (enc:=zg) (a:=(zf r b).an) (Uq r b ok) (by kernel_rfl) (AV.pureB_ok rfl),ah (by kernel_rfl)⟩
def CN(s:List Rw)(f:Tbl):=okL [.sl 2 (s.map Rw.v) false,.func 147 [.rptr (.agg [.int f.router,.int f.sub,.int f.len,.sl 2 (f.rows.map Rw.v) false]) 0]]
def Jd(s:List Rw)(f:Tbl)(t0:Int):NF:=⟨[(0,.k,.sl 2 (s.map Rw.v) false),(1,.k,.func 147 [.rptr (.agg [.int f.router,.int f.sub,.int f.len,.sl 2 (f.rows.map Rw.v) false]) 0]),(7,.k,.int ((s.map Rw.v).length:Int)),(8,.k,.int t0)],[]⟩
@[reducible] def CM:Nat→Type
 | 0=>Int
 | _=>Unit
def qZ(r:Int):AV:=.int r
def qY(s:List Rw)(f:Tbl)(I0:Int→Prop)(m0:Int→Nat):Ax Tryz.prog CM (Int):=
 (.loop 0 (Jd s f) I0 m0 ((0):Int) [] λ(t0:Int) b0 =>
(.br 16 (decide (t0<((s.map Rw.v).length:Int))) (.el 96 Rw.v s (λR=>Rf (s.map Rw.v) (ck (decide (0≤t0)) (ck (decide (t0<(s.length:Int)))
(∀x1,s[t0.toNat]?=some x1 →
(R x1))))) λx1 =>
(.callP (Ur x1 f)
(.br 144 (gR x1 f) (.ret (t0))
(.bk 0 b0 ((W (t0+1)):Int) []))))
(.ret (-1))))
def uo(s:List Rw)(f:Tbl)(I0:Int→Prop)(m0:Int→Nat)(r0:Int):=(qY s f I0 m0).vp qZ r0
theorem Oa(s:List Rw)(f:Tbl)(ok:CN s f):∃I m,uo s f I m (ci (λy=>gR y f) s):=by
 refine⟨λt=>aG s (λy=>gR y f=false) t,λt=>s.length-t.toNat,?_⟩
 simp only[CN,okU,Blk.ok,az,List.length_map]at ok
 dsimp only[uo,qY,CM,Ax.vp,Ax.vc];simp only[vcU,rfU,List.length_map]
 exact⟨aG.zero,λt h=>⟨λc=>⟨h.idx,c,λx hx=>⟨λq=>h.found hx q,λq=>h.step (by omega) hx q⟩⟩,λc=>h.lost c⟩⟩
def Ob(s:List Rw)(f:Tbl):PC Tryz.prog:=⟨181,[(.s 2),.k],[.sl 2 (s.map Rw.v) false,.func 147 [.rptr (.agg [.int f.router,.int f.sub,.int f.len,.sl 2 (f.rows.map Rw.v) false]) 0]],qZ (ci (λy=>gR y f) s),ao.of_ok λok=>(Oa s f ok).elim λI0 h=>h.elim λm0 h=>aj (sh:=.k) (enc:=qZ) (a:=(qY s f I0 m0).an) h (by kernel_rfl) (AV.pureB_ok rfl),ah (by kernel_rfl)⟩
def Oe(s:List Rw)(f:Tbl):=okL [.sl 2 (s.map Rw.v) false,.func 147 [.rptr (.agg [.int f.router,.int f.sub,.int f.len,.sl 2 (f.rows.map Rw.v) false]) 0]]
def rc(r:Bool):AV:=.bool r
def rb(s:List Rw)(f:Tbl):Ax Tryz.prog noS (Bool):=
 (.callP (Ob s f)
(.ret (decide (0≤(ci (λy=>gR y f) s)))))
def uq(s:List Rw)(f:Tbl)(r0:Bool):=(rb s f).vp rc r0
theorem Oc(s:List Rw)(f:Tbl)(ok:Oe s f):uq s f (s.any λy=>gR y f):=by
 dsimp only[uq,rb,noS,Ax.vp,Ax.vc];simp only[vcU,rfU,List.length_map]
 exact dc _ _
def Od(s:List Rw)(f:Tbl):PC Tryz.prog:=⟨143,[(.s 2),.k],[.sl 2 (s.map Rw.v) false,.func 147 [.rptr (.agg [.int f.router,.int f.sub,.int f.len,.sl 2 (f.rows.map Rw.v) false]) 0]],rc (s.any λy=>gR y f),ao.of_ok λok=>aj (sh:=.k) (enc:=rc) (a:=(rb s f).an) (Oc s f ok) (by kernel_rfl) (AV.pureB_ok rfl),ah (by kernel_rfl)⟩
def hdB(b:Tbl):Bool:=!((inP b.router 1 99 && inP b.sub 0 7) && (aJ b.len || (b.len==0 && decide (b.rows.length=0))))
def ie(b:Tbl):Bool:=hdB b || b.rows.any iQ
def gQ(b:Tbl):Bool:=decide (256<b.rows.length) || b.rows.any gP
def w4(l:List Rw):Prop:=(∀r∈l,iY r.nx=true)∧l.Pairwise λx y=>x.id<y.id
instance (l:List Rw):Decidable (w4 l):=by unfold w4;infer_instance
def dN(b:Tbl):Int:=if ie b=true then 2 else if gQ b=true then 3 else if ¬w4 b.rows then 25
 else if(b.rows.any λr=>gR r b)=true then 8 else 0
theorem qc{b:Tbl}(h:gQ b=false):b.rows.length≤256∧∀r∈b.rows,r.nx.length≤24:=by
 unfold gQ at h
 rw[Bool.or_eq_false_iff,decide_eq_false_iff_not,List.any_eq_false]at h
 refine⟨by omega,λr hr=>?_⟩
 have:=h.2 r hr
 simp[gP]at this;exact this
def U3(b:Tbl):=okL [.agg [.int b.router,.int b.sub,.int b.len,.sl 2 (b.rows.map Rw.v) false]]
def O3(b:Tbl)(t0:Unit):NF:=⟨[(1,.k,.ref 0 0)],[.box (.agg [.int b.router,.int b.sub,.int b.len,.sl 2 (b.rows.map Rw.v) false])]⟩
def O2(b:Tbl)(t1:Bool):NF:=⟨[(1,.k,.ref 0 0),(15,.k,.bool t1)],[.box (.agg [.int b.router,.int b.sub,.int b.len,.sl 2 (b.rows.map Rw.v) false])]⟩
def O1(b:Tbl)(t2:Bool):NF:=⟨[(1,.k,.ref 0 0),(41,.k,.bool t2)],[.box (.agg [.int b.router,.int b.sub,.int b.len,.sl 2 (b.rows.map Rw.v) false])]⟩
def O0(b:Tbl)(t3:Bool):NF:=⟨[(1,.k,.ref 0 0),(15,.k,.bool t3)],[.box (.agg [.int b.router,.int b.sub,.int b.len,.sl 2 (b.rows.map Rw.v) false])]⟩
def Oz(b:Tbl)(t4:Bool):NF:=⟨[(1,.k,.ref 0 0),(41,.k,.bool t4)],[.box (.agg [.int b.router,.int b.sub,.int b.len,.sl 2 (b.rows.map Rw.v) false])]⟩
def Oy(b:Tbl)(t5:Int):NF:=⟨[(1,.k,.ref 0 0),(52,.k,.sl 2 (b.rows.map Rw.v) false),(53,.k,.int ((b.rows.map Rw.v).length:Int)),(54,.k,.int t5)],[.box (.agg [.int b.router,.int b.sub,.int b.len,.sl 2 (b.rows.map Rw.v) false])]⟩
def Ox(b:Tbl)(t5:Int)(t6:Bool):NF:=⟨[(1,.k,.ref 0 0),(52,.k,.sl 2 (b.rows.map Rw.v) false),(53,.k,.int ((b.rows.map Rw.v).length:Int)),(54,.k,.int t5),(78,.k,.bool t6)],[.box (.agg [.int b.router,.int b.sub,.int b.len,.sl 2 (b.rows.map Rw.v) false])]⟩
@[reducible] def Jl:Nat→Type
 | 0=>Unit
 | 1=>Bool
 | 2=>Bool
 | 3=>Bool
 | 4=>Bool
 | 5=>Int
 | 6=>Bool
 | _=>Unit
def zu(r:Int):AV:=.int r
def zt(b:Tbl)(I0:Unit→Prop)(I1:Bool→Prop)(I2:Bool→Bool→Prop)(I3:Bool→Prop)(I4:Bool→Bool→Prop)(I5:Unit→Int→Prop)(m5:Unit→Int→Nat)(I6:Unit→Int→Rw→Bool→Prop):Ax Tryz.prog Jl (Int):=
 (.pass (.join2 0 (O3 b) (λ(t0:Unit)=>I0 t0) (λb0=>(.br 96 (b.len==0) (.join 1 (O2 b) (λ(t1:Bool)=>I1 t1) (λb1=>(.callP (jT b.router 1 99)
(.br 272 (!(inP b.router 1 99)) (.bk 1 b1 ((true):Bool) [0])
(.callP (jT b.sub 0 7)
(.br 368 (!(inP b.sub 0 7)) (.bk 1 b1 ((true):Bool) [0])
(.callP (gb b.len)
(.br 448 (!(aJ b.len)) (.br 528 (!(((b.rows.map Rw.v).length:Int)==0)) (.bk 1 b1 ((true):Bool) [0])
(.callP (pm b.rows)
(.bk 1 b1 (((b.rows).any iQ):Bool) [0])))
(.callP (pm b.rows)
(.bk 1 b1 (((b.rows).any iQ):Bool) [0]))))))))) λ(t1:Bool) =>
(.br 1 t1 (.ret (2))
(.join 2 (O1 b) (λ(t2:Bool)=>I2 t1 t2) (λb2=>(.br 81 (decide (256<((b.rows.map Rw.v).length:Int))) (.bk 2 b2 ((true):Bool) [0])
(.callP (BC b.rows)
(.bk 2 b2 (((b.rows).any gP):Bool) [0])))) λ(t2:Bool) =>
(.br 1 t2 (.ret (3))
(.bk 0 b0 ((()):Unit) [0])))))
(.join 3 (O0 b) (λ(t3:Bool)=>I3 t3) (λb3=>(.callP (jT b.router 1 99)
(.br 272 (!(inP b.router 1 99)) (.bk 3 b3 ((true):Bool) [0])
(.callP (jT b.sub 0 7)
(.br 368 (!(inP b.sub 0 7)) (.bk 3 b3 ((true):Bool) [0])
(.callP (gb b.len)
(.br 448 (!(aJ b.len)) (.bk 3 b3 ((true):Bool) [0])
(.callP (pm b.rows)
(.bk 3 b3 (((b.rows).any iQ):Bool) [0]))))))))) λ(t3:Bool) =>
(.br 1 t3 (.ret (2))
(.join 4 (Oz b) (λ(t4:Bool)=>I4 t3 t4) (λb4=>(.br 81 (decide (256<((b.rows.map Rw.v).length:Int))) (.bk 4 b4 ((true):Bool) [0])
(.callP (BC b.rows)
(.bk 4 b4 (((b.rows).any gP):Bool) [0])))) λ(t4:Bool) =>
(.br 1 t4 (.ret (3))
(.bk 0 b0 ((()):Unit) [0]))))))) λ(t0:Unit) =>
(.loop 5 (Oy b) (I5 t0) (m5 t0) ((0):Int) [0] λ(t5:Int) b5 =>
(.br 17 (decide (t5<((b.rows.map Rw.v).length:Int))) (.el 33 Rw.v b.rows (λR=>Rf (b.rows.map Rw.v) (ck (decide (0≤t5)) (ck (decide (t5<(b.rows.length:Int)))
(∀x1,b.rows[t5.toNat]?=some x1 →
(R x1))))) λx1 =>
(.join 6 (Ox b t5) (λ(t6:Bool)=>I6 t0 t5 x1 t6) (λb6=>(.req 145 (x1.nx.length≤1000000) λh2 =>
(.callP (UX x1.nx h2)
(.br 193 (!(iY x1.nx)) (.bk 6 b6 ((true):Bool) [0])
(.br 241 (decide (0<t5)) (.el 305 Rw.v b.rows (λR=>Rf (b.rows.map Rw.v) (ck (decide (0≤(W (t5-1)))) (ck (decide ((W (t5-1))<(b.rows.length:Int)))
(∀x3,b.rows[(W (t5-1)).toNat]?=some x3 →
(R x3))))) λx3 =>
(.bk 6 b6 ((decide (x1.id≤x3.id)):Bool) [0]))
(.bk 6 b6 ((false):Bool) [0])))))) λ(t6:Bool) =>
(.br 1 t6 (.ret (25))
(.bk 5 b5 ((W (t5+1)):Int) [0]))))
(.callP (Od b.rows b)
(.say (ck (dj [[.agg [.int b.router,.int b.sub,.int b.len,.sl 2 (b.rows.map Rw.v) false]]])) (.br 81 ((b.rows).any λy=>gR y b) (.ret (8))
(.ret (0)))))))))
def CT(b:Tbl)(I0:Unit→Prop)(I1:Bool→Prop)(I2:Bool→Bool→Prop)(I3:Bool→Prop)(I4:Bool→Bool→Prop)(I5:Unit→Int→Prop)(m5:Unit→Int→Nat)(I6:Unit→Int→Rw→Bool→Prop)(r0:Int):=(zt b I0 I1 I2 I3 I4 I5 m5 I6).vp zu r0
theorem U2(b:Tbl)(ok:U3 b):∃I0 I1 I2 I3 I4 I5 m5 I6,CT b I0 I1 I2 I3 I4 I5 m5 I6 (dN b):=by
 refine⟨λ_=>ie b=false∧gQ b=false,λt=>t=ie b,λ_ t=>t=gQ b,λt=>t=ie b,λ_ t=>t=gQ b,
  λ_ i=>dU b.rows (λx y=>x.id<y.id) i∧aG b.rows (λr=>iY r.nx=true) i,λ_ i=>b.rows.length-i.toNat,
  λ_ i x t=>t=true↔iY x.nx=false∨0<i∧∃p q,b.rows[(W (i-1)).toNat]?=some p∧b.rows[i.toNat]?=some q∧¬p.id<q.id,?_⟩
 dsimp only[CT,zt,Jl,Ax.vp,Ax.vc];simp only[vcU,rfU,List.length_map]
 unfold dN
 have k1:∀t,t=ie b→(t=true→2=if ie b=true then 2 else if gQ b=true then 3 else if ¬w4 b.rows then 25 else if(b.rows.any λr=>gR r b)=true then 8 else(0:Int)):=by
  rintro _ rfl h;rw[if_pos h]
 have k2:ie b=false→∀t,t=gQ b→(t=true→3=if ie b=true then 2 else if gQ b=true then 3 else if ¬w4 b.rows then 25 else if(b.rows.any λr=>gR r b)=true then 8 else(0:Int)):=by
  rintro h0 _ rfl h;rw[if_neg (by rw[h0];simp),if_pos h]
 have k3:(256<(b.rows.length:Int)→true=gQ b)∧(¬256<(b.rows.length:Int)→b.rows.any gP=gQ b):=
  ⟨λg=>by rw[gQ,decide_eq_true (by omega)];rfl,λg=>by rw[gQ,decide_eq_false (by omega)];rfl⟩
 refine⟨⟨λe=>⟨?_,?_⟩,λe=>⟨?_,?_⟩⟩,?_⟩
 ·refine⟨λa=>?_,λa=>⟨λc=>?_,λc=>⟨λd=>⟨λf=>?_,λf=>?_⟩,λd=>?_⟩⟩⟩<;>simp_all [ie,hdB]
 ·intro t ht
  exact⟨k1 t ht,λh=>⟨k3,λt2 ht2=>⟨k2 (ht ▸ h) t2 ht2,λh2=>⟨ht ▸ h,ht2 ▸ h2⟩⟩⟩⟩
 ·refine⟨λa=>?_,λa=>⟨λc=>?_,λc=>⟨λd=>?_,λd=>?_⟩⟩⟩<;>simp_all [ie,hdB]
 ·intro t ht
  exact⟨k1 t ht,λh=>⟨k3,λt2 ht2=>⟨k2 (ht ▸ h) t2 ht2,λh2=>⟨ht ▸ h,ht2 ▸ h2⟩⟩⟩⟩
 rintro _ ⟨h1,h2⟩
 obtain⟨hr,hn⟩:=qc h2
 rw[if_neg (by rw[h1];simp),if_neg (by rw[h2];simp)]
 refine⟨⟨dU.zero,aG.zero⟩,?_⟩
 rintro(i:Int) ⟨hC,hI⟩
 refine⟨λc1=>⟨hC.idx,c1,λx hx=>⟨⟨by have:=hn x (bq hx);omega,λe=>?_,λe=>⟨λh0=>?_,λh0=>?_⟩⟩,λt ht=>⟨λe=>?_,λe=>?_⟩⟩⟩,λc1=>?_⟩
 ·exact⟨λ_=>.inl (by simpa using e),λ_=>trivial⟩
 ·have e:iY x.nx=true:=by simpa using e
  obtain⟨g1,g2⟩:=hC.rng (by omega) h0 c1
  refine⟨g1,g2,λy hy=>?_⟩
  refine⟨λq=>.inr ⟨h0,y,x,hy,hx,by omega⟩,?_⟩
  rintro(q|⟨_,y',x',hy',hx',q⟩)
  ·rw[e]at q;cases q
  ·rw[hy]at hy';cases hy';rw[hx]at hx';cases hx';omega
 ·have e:iY x.nx=true:=by simpa using e
  refine⟨nofun,?_⟩
  rintro(q|q)
  ·rw[e]at q;cases q
  ·exact absurd q.1 h0
 ·have q:=ht.mp e
  rw[if_pos]
  rintro⟨o1,o2⟩
  rcases q with q|q
  ·rw[o1 x (bq hx)]at q;cases q
  ·exact(hC.next (b:=true) (by omega) c1 ⟨λ_=>q,λ_=>rfl⟩).1 rfl o2
 ·have q:¬_:=λq=>by rw[ht.mpr q]at e;cases e
  have ha:iY x.nx=true:=by
   cases z:iY x.nx
   ·exact absurd (.inl z) q
   ·rfl
  have n2:=(hC.next (b:=false) (by omega) c1 ⟨nofun,λz=>absurd (.inr z) q⟩).2 rfl
  exact⟨⟨n2.1,(hI.step (by omega) hx ha).1⟩,n2.2⟩
 ·have hO:w4 b.rows:=⟨hI.done c1,hC.done c1 λ_ _ _ q r=>Int.lt_trans q r⟩
  rw[if_neg (not_not_intro hO)]
  exact⟨rfl,λe=>by rw[if_pos e],λe=>by rw[if_neg (by rw[e];simp)]⟩
def Jm(b:Tbl):PC Tryz.prog:=⟨88,[(.a [.k,.k,.k,(.s 2)])],[.agg [.int b.router,.int b.sub,.int b.len,.sl 2 (b.rows.map Rw.v) false]],zu (dN b),ao.of_ok λok=>(U2 b ok).elim λI0 h=>h.elim λI1 h=>h.elim λI2 h=>h.elim λI3 h=>h.elim λI4 h=>h.elim λI5 h=>h.elim λm5 h=>h.elim λI6 h=>aj (sh:=.k) (enc:=zu) (a:=(zt b I0 I1 I2 I3 I4 I5 m5 I6).an) h (by kernel_rfl) (AV.pureB_ok rfl),ah (by kernel_rfl)⟩
theorem RL{b:Tbl}(ok:okL [AV.agg [.int b.router,.int b.sub,.int b.len,.sl 2 (b.rows.map Rw.v) false]]):b.rows.length≤9223372036854775807∧∀r∈b.rows,r.nx.length≤9223372036854775807:=by
 obtain⟨⟨_,_,_,h,_⟩,_⟩:=ok
 obtain⟨h1,h2⟩:=h
 rw[List.length_map]at h1
 refine⟨h1,λr hr=>?_⟩
 obtain⟨_,h3,_⟩:=Bp.mp h2 r.v (List.mem_map.mpr ⟨r,hr,rfl⟩)
 have:=h3.1
 rw[List.length_map]at this
 exact this
def U0(b:Tbl):=okL [.agg [.int b.router,.int b.sub,.int b.len,.sl 2 (b.rows.map Rw.v) false]]
def Oo(b:Tbl)(t0:Bool):NF:=⟨[(1,.k,.ref 0 0),(36,.k,.bool t0)],[.box (.agg [.int b.router,.int b.sub,.int b.len,.sl 2 (b.rows.map Rw.v) false])]⟩
def On(b:Tbl)(t1:Int):NF:=⟨[(1,.k,.ref 0 0),(3,.k,.int t1)],[.box (.agg [.int b.router,.int b.sub,.int b.len,.sl 2 (b.rows.map Rw.v) false])]⟩
def Om(b:Tbl)(t1:Int)(t2:Int):NF:=⟨[(1,.k,.ref 0 0),(3,.k,.int t1),(4,.k,.int t2)],[.box (.agg [.int b.router,.int b.sub,.int b.len,.sl 2 (b.rows.map Rw.v) false])]⟩
def Ol(b:Tbl)(t3:Int):NF:=⟨[(1,.k,.ref 0 0),(5,.k,.int t3)],[.box (.agg [.int b.router,.int b.sub,.int b.len,.sl 2 (b.rows.map Rw.v) false])]⟩
def Ok(b:Tbl)(t4:Int):NF:=⟨[(1,.k,.ref 0 0),(6,.k,.int t4)],[.box (.agg [.int b.router,.int b.sub,.int b.len,.sl 2 (b.rows.map Rw.v) false])]⟩
def Oj(b:Tbl)(t4:Int)(x6:Rw)(t5:Bool):NF:=⟨[(1,.k,.ref 0 0),(6,.k,.int t4),(7,.k,.sl 1 (x6.nx.map AV.int) false),(123,.k,.bool t5)],[.box (.agg [.int b.router,.int b.sub,.int b.len,.sl 2 (b.rows.map Rw.v) false])]⟩
def Oi(b:Tbl)(t4:Int)(x6:Rw)(t6:Int):NF:=⟨[(1,.k,.ref 0 0),(6,.k,.int t4),(7,.k,.sl 1 (x6.nx.map AV.int) false),(8,.k,.int t6)],[.box (.agg [.int b.router,.int b.sub,.int b.len,.sl 2 (b.rows.map Rw.v) false])]⟩
def Oh(b:Tbl)(t7:Int):NF:=⟨[(1,.k,.ref 0 0),(9,.k,.int t7)],[.box (.agg [.int b.router,.int b.sub,.int b.len,.sl 2 (b.rows.map Rw.v) false])]⟩
def Og(b:Tbl)(t7:Int)(t8:Bool):NF:=⟨[(1,.k,.ref 0 0),(9,.k,.int t7),(165,.k,.bool t8)],[.box (.agg [.int b.router,.int b.sub,.int b.len,.sl 2 (b.rows.map Rw.v) false])]⟩
@[reducible] def Ji:Nat→Type
 | 0=>Bool
 | 1=>Int
 | 2=>Int
 | 3=>Int
 | 4=>Int
 | 5=>Bool
 | 6=>Int
 | 7=>Int
 | 8=>Bool
 | _=>Unit
def zp(r:Int):AV:=.int r
def zo(b:Tbl)(I0:Bool→Prop)(I1:Bool→Int→Prop)(m1:Bool→Int→Nat)(I2:Bool→Int→Rw→Int→Prop)(m2:Bool→Int→Rw→Int→Nat)(I3:Bool→Int→Int→Prop)(m3:Bool→Int→Int→Nat)(I4:Bool→Int→Int→Int→Prop)(m4:Bool→Int→Int→Int→Nat)(I5:Bool→Int→Int→Int→Rw→Bool→Prop)(I6:Bool→Int→Int→Int→Rw→Bool→Int→Prop)(m6:Bool→Int→Int→Int→Rw→Bool→Int→Nat)(I7:Bool→Int→Int→Int→Int→Prop)(m7:Bool→Int→Int→Int→Int→Nat)(I8:Bool→Int→Int→Int→Int→Bool→Prop):Ax Tryz.prog Ji (Int):=
 (.pass (.pass (.join 0 (Oo b) (λ(t0:Bool)=>I0 t0) (λb0=>(.callP (jz b.router 1 99)
(.br 112 (!(inP b.router 1 99)) (.bk 0 b0 ((true):Bool) [0])
(.callP (jz b.sub 0 7)
(.br 208 (!(inP b.sub 0 7)) (.bk 0 b0 ((true):Bool) [0])
(.callP (iz b.len)
(.br 288 (!(aJ b.len)) (.br 352 (b.len != 0) (.bk 0 b0 ((true):Bool) [0])
(.bk 0 b0 ((decide (0<((b.rows.map Rw.v).length:Int))):Bool) [0]))
(.bk 0 b0 ((false):Bool) [0])))))))) λ(t0:Bool) =>
(.br 1 t0 (.ret (2))
(.loop 1 (On b) (I1 t0) (m1 t0) ((0):Int) [0] λ(t1:Int) b1 =>
(.br 81 (decide (t1<((b.rows.map Rw.v).length:Int))) (.el 129 Rw.v b.rows (λR=>Rf (b.rows.map Rw.v) (ck (decide (0≤t1)) (ck (decide (t1<(b.rows.length:Int)))
(∀x1,b.rows[t1.toNat]?=some x1 →
(R x1))))) λx1 =>
(.callP (jz x1.id 1 256)
(.br 209 (!(inP x1.id 1 256)) (.ret (2))
(.loop 2 (Om b t1) (I2 t0 t1 x1) (m2 t0 t1 x1) ((0):Int) [0] λ(t2:Int) b2 =>
(.el 65 Rw.v b.rows (λR=>Rf (b.rows.map Rw.v) (ck (decide (0≤t1)) (ck (decide (t1<(b.rows.length:Int)))
(∀x2,b.rows[t1.toNat]?=some x2 →
(R x2))))) λx2 =>
(.br 145 (decide (t2<((x2.nx.map AV.int).length:Int))) (.el 193 Rw.v b.rows (λR=>Rf (b.rows.map Rw.v) (ck (decide (0≤t1)) (ck (decide (t1<(b.rows.length:Int)))
(∀x3,b.rows[t1.toNat]?=some x3 →
(R x3))))) λx3 =>
(.el 257 AV.int x3.nx (λR=>Rf (x3.nx.map AV.int) (ck (decide (0≤t2)) (ck (decide (t2<(x3.nx.length:Int)))
(∀x4,x3.nx[t2.toNat]?=some x4 →
(R x4))))) λx4 =>
(.callP (jz x4 1 99)
(.br 321 (!(inP x4 1 99)) (.ret (2))
(.bk 2 b2 ((W (t2+1)):Int) [0])))))
(.bk 1 b1 ((W (t1+1)):Int) [0])))))))
(.br 145 (decide (256<((b.rows.map Rw.v).length:Int))) (.ret (3))
(.loop 3 (Ol b) (I3 t0 t1) (m3 t0 t1) ((0):Int) [0] λ(t3:Int) b3 =>
(.br 81 (decide (t3<((b.rows.map Rw.v).length:Int))) (.el 129 Rw.v b.rows (λR=>Rf (b.rows.map Rw.v) (ck (decide (0≤t3)) (ck (decide (t3<(b.rows.length:Int)))
(∀x5,b.rows[t3.toNat]?=some x5 →
(R x5))))) λx5 =>
(.br 209 (decide (24<((x5.nx.map AV.int).length:Int))) (.ret (3))
(.bk 3 b3 ((W (t3+1)):Int) [0])))
(.loop 4 (Ok b) (I4 t0 t1 t3) (m4 t0 t1 t3) ((0):Int) [0] λ(t4:Int) b4 =>
(.br 81 (decide (t4<((b.rows.map Rw.v).length:Int))) (.el 129 Rw.v b.rows (λR=>Rf (b.rows.map Rw.v) (ck (decide (0≤t4)) (ck (decide (t4<(b.rows.length:Int)))
(∀x6,b.rows[t4.toNat]?=some x6 →
(R x6))))) λx6 =>
(.pass (.join 5 (Oj b t4 x6) (λ(t5:Bool)=>I5 t0 t1 t3 t4 x6 t5) (λb5=>(.br 241 (decide (0<t4)) (.el 305 Rw.v b.rows (λR=>Rf (b.rows.map Rw.v) (ck (decide (0≤(W (t4-1)))) (ck (decide ((W (t4-1))<(b.rows.length:Int)))
(∀x7,b.rows[(W (t4-1)).toNat]?=some x7 →
(R x7))))) λx7 =>
(.el 401 Rw.v b.rows (λR=>Rf (b.rows.map Rw.v) (ck (decide (0≤t4)) (ck (decide (t4<(b.rows.length:Int)))
(∀x8,b.rows[t4.toNat]?=some x8 →
(R x8))))) λx8 =>
(.bk 5 b5 ((decide (x8.id≤x7.id)):Bool) [0])))
(.bk 5 b5 ((false):Bool) [0]))) λ(t5:Bool) =>
(.br 1 t5 (.ret (25))
(.loop 6 (Oi b t4 x6) (I6 t0 t1 t3 t4 x6 t5) (m6 t0 t1 t3 t4 x6 t5) ((1):Int) [0] λ(t6:Int) b6 =>
(.br 65 (decide (t6<((x6.nx.map AV.int).length:Int))) (.el 113 AV.int x6.nx (λR=>Rf (x6.nx.map AV.int) (ck (decide (0≤(W (t6-1)))) (ck (decide ((W (t6-1))<(x6.nx.length:Int)))
(∀x9,x6.nx[(W (t6-1)).toNat]?=some x9 →
(R x9))))) λx9 =>
(.el 177 AV.int x6.nx (λR=>Rf (x6.nx.map AV.int) (ck (decide (0≤t6)) (ck (decide (t6<(x6.nx.length:Int)))
(∀x10,x6.nx[t6.toNat]?=some x10 →
(R x10))))) λx10 =>
(.br 225 (decide (x10≤x9)) (.ret (25))
(.bk 6 b6 ((W (t6+1)):Int) [0]))))
(.bk 4 b4 ((W (t4+1)):Int) [0])))))))
(.loop 7 (Oh b) (I7 t0 t1 t3 t4) (m7 t0 t1 t3 t4) ((0):Int) [0] λ(t7:Int) b7 =>
(.br 81 (decide (t7<((b.rows.map Rw.v).length:Int))) (.pass (.join 8 (Og b t7) (λ(t8:Bool)=>I8 t0 t1 t3 t4 t7 t8) (λb8=>(.el 129 Rw.v b.rows (λR=>Rf (b.rows.map Rw.v) (ck (decide (0≤t7)) (ck (decide (t7<(b.rows.length:Int)))
(∀x11,b.rows[t7.toNat]?=some x11 →
(R x11))))) λx11 =>
(.br 225 (decide (1<((x11.nx.map AV.int).length:Int))) (.el 273 Rw.v b.rows (λR=>Rf (b.rows.map Rw.v) (ck (decide (0≤t7)) (ck (decide (t7<(b.rows.length:Int)))
(∀x12,b.rows[t7.toNat]?=some x12 →
(R x12))))) λx12 =>
(.callP (jW x12.nx b.router)
(.bk 8 b8 ((decide (b.router∈x12.nx)):Bool) [0])))
(.bk 8 b8 ((false):Bool) [0])))) λ(t8:Bool) =>
(.br 1 t8 (.ret (8))
(.bk 7 b7 ((W (t7+1)):Int) [0]))))
(.ret (0)))))))))))))))
def CR(b:Tbl)(I0:Bool→Prop)(I1:Bool→Int→Prop)(m1:Bool→Int→Nat)(I2:Bool→Int→Rw→Int→Prop)(m2:Bool→Int→Rw→Int→Nat)(I3:Bool→Int→Int→Prop)(m3:Bool→Int→Int→Nat)(I4:Bool→Int→Int→Int→Prop)(m4:Bool→Int→Int→Int→Nat)(I5:Bool→Int→Int→Int→Rw→Bool→Prop)(I6:Bool→Int→Int→Int→Rw→Bool→Int→Prop)(m6:Bool→Int→Int→Int→Rw→Bool→Int→Nat)(I7:Bool→Int→Int→Int→Int→Prop)(m7:Bool→Int→Int→Int→Int→Nat)(I8:Bool→Int→Int→Int→Int→Bool→Prop)(r0:Int):=(zo b I0 I1 m1 I2 m2 I3 m3 I4 m4 I5 I6 m6 I7 m7 I8).vp zp r0
theorem lK{b:Tbl}:ie b=false↔hdB b=false∧∀r∈b.rows,inP r.id 1 256=true∧∀n∈r.nx,inP n 1 99=true:=by
 unfold ie
 rw[Bool.or_eq_false_iff,List.any_eq_false]
 refine and_congr_right λ_=>forall_congr' λr=>forall_congr' λ_=>?_
 unfold iQ kJ
 cases inP r.id 1 256<;>simp
theorem Uy(b:Tbl)(ok:U0 b):∃I0 I1 m1 I2 m2 I3 m3 I4 m4 I5 I6 m6 I7 m7 I8,CR b I0 I1 m1 I2 m2 I3 m3 I4 m4 I5 I6 m6 I7 m7 I8 (dN b):=by
 refine⟨λt=>t=hdB b,λ_ i=>aG b.rows (λr=>inP r.id 1 256=true∧∀n∈r.nx,inP n 1 99=true) i,λ_ i=>b.rows.length-i.toNat,
  λ_ _ x i=>aG x.nx (λn=>inP n 1 99=true) i,λ_ _ x i=>x.nx.length-i.toNat,
  λ_ _ i=>aG b.rows (λr=>¬24<r.nx.length) i,λ_ _ i=>b.rows.length-i.toNat,
  λ_ _ _ i=>dU b.rows (λx y=>x.id<y.id) i∧aG b.rows (λr=>iY r.nx=true) i,λ_ _ _ i=>b.rows.length-i.toNat,
  λ_ _ _ i x t=>t=true↔0<i∧∃p q,b.rows[(W (i-1)).toNat]?=some p∧b.rows[i.toNat]?=some q∧¬p.id<q.id,
  λ_ _ _ _ x _ i=>g9 x.nx (λp q=>p<q) i,λ_ _ _ _ x _ i=>x.nx.length+1-i.toNat,
  λ_ _ _ _ i=>aG b.rows (λr=>gR r b=false) i,λ_ _ _ _ i=>b.rows.length-i.toNat,λ_ _ _ _ i t=>∀x,b.rows[i.toNat]?=some x→t=gR x b,?_⟩
 have okn:=RL (b:=b) ok
 dsimp only[CR,zo,Ji,Ax.vp,Ax.vc];simp only[vcU,rfU,List.length_map]
 unfold dN
 obtain⟨ol,on⟩:=okn
 have hz:(0<(b.rows.length:Int))↔¬b.rows.length=0:=by omega
 refine⟨⟨λa=>?_,λa=>⟨λc=>?_,λc=>⟨λd=>⟨λf=>?_,λf=>?_⟩,λd=>?_⟩⟩⟩,?_⟩
 ·simp_all [hdB]
 ·simp_all [hdB]
 ·simp_all [hdB]
 ·rw[Bool.eq_iff_iff,decide_eq_true_iff,hz];simp_all [hdB]
 ·simp_all [hdB]
 rintro _ rfl
 refine⟨λh=>by rw[if_pos (by rw[ie,h];rfl)],λh=>⟨aG.zero,?_⟩⟩
 intro (i:Int) h1
 have bad:∀{x:Rw} {i:Int},b.rows[i.toNat]?=some x→¬(inP x.id 1 256=true∧∀n∈x.nx,inP n 1 99=true)→ie b=true:=λ{x i} hx q=>by
  cases z:ie b
  ·exact absurd ((lK.mp z).2 x (bq hx)) q
  ·rfl
 refine⟨λc1=>⟨h1.idx,c1,λx hx=>⟨λe=>?_,λe=>⟨aG.zero,?_⟩⟩⟩,λc1=>?_⟩
 ·rw[if_pos (bad hx λq=>by rw[q.1]at e;cases e)]
 ·intro (k:Int) h2
  refine⟨h1.idx,c1,λx2 hx2=>⟨λc2=>⟨h1.idx,c1,λx3 hx3=>⟨h2.idx,?_,λn hn=>⟨λe2=>?_,λe2=>?_⟩⟩⟩,λc2=>?_⟩⟩
  ·rw[hx]at hx2 hx3;cases hx2;cases hx3;exact c2
  ·rw[hx]at hx2 hx3;cases hx2;cases hx3
   rw[if_pos (bad hx λq=>by rw[q.2 n (bq hn)]at e2;cases e2)]
  ·rw[hx]at hx2 hx3;cases hx2;cases hx3
   exact h2.step (on x (bq hx)) hn (by simpa using e2)
  ·rw[hx]at hx2;cases hx2
   exact h1.step ol hx ⟨by simpa using e,h2.done c2⟩
 have hout:ie b=false:=lK.mpr ⟨h,h1.done c1⟩
 rw[if_neg (by rw[hout];simp)]
 refine⟨λg=>by rw[if_pos (by rw[gQ,decide_eq_true (by omega)];rfl)],λg=>⟨aG.zero,?_⟩⟩
 intro (i2:Int) h3
 refine⟨λc2=>⟨h3.idx,c2,λx hx=>⟨λe=>?_,λe=>h3.step ol hx (by omega)⟩⟩,λc2=>?_⟩
 ·rw[if_pos]
  rw[gQ,(List.any_eq_true.mpr ⟨x,bq hx,by rw[gP,decide_eq_true_iff];omega⟩:b.rows.any gP=true)];simp
 have hlim:gQ b=false:=by
  rw[gQ,decide_eq_false (by omega),Bool.false_or,List.any_eq_false]
  intro x hx;have:=h3.done c2 x hx;simp[gP];omega
 obtain⟨hr,hn⟩:=qc hlim
 rw[if_neg (by rw[hlim];simp)]
 refine⟨⟨dU.zero,aG.zero⟩,?_⟩
 rintro(i3:Int) ⟨hC,hI⟩
 refine⟨λc3=>⟨hC.idx,c3,λx hx=>⟨⟨λh0=>?_,λh0=>⟨nofun,λq=>absurd q.1 h0⟩⟩,λt ht=>⟨λe=>?_,λe=>⟨g9.one,?_⟩⟩⟩⟩,λc3=>?_⟩
 ·obtain⟨g1,g2⟩:=hC.rng (by omega) h0 c3
  refine⟨g1,g2,λy hy=>⟨hC.idx,c3,λx2 hx2=>?_⟩⟩
  refine⟨λq=>⟨h0,y,x2,hy,hx2,by omega⟩,?_⟩
  rintro⟨_,y',x',hy',hx',q⟩
  rw[hy]at hy';cases hy';rw[hx2]at hx';cases hx';omega
 ·rw[if_pos]
  exact λo=>(hC.next (b:=true) (by omega) c3 ⟨λ_=>ht.mp e,λ_=>rfl⟩).1 rfl o.2
 ·intro (k:Int) h4
  refine⟨λc4=>?_,λc4=>?_⟩
  ·obtain⟨i1,i2⟩:=h4.idx (by have:=hn x (bq hx);omega) c4
   refine⟨i1.1,i1.2,λp hp=>⟨i2,c4,λq hq=>⟨λe2=>?_,λe2=>h4.step (by have:=hn x (bq hx);omega) hp hq (by omega)⟩⟩⟩
   rw[if_pos]
   intro o
   have:=o.1 x (bq hx)
   rw[iY,decide_eq_true_iff]at this
   exact h4.bad (S:=λp q=>p<q) (by have:=hn x (bq hx);omega) hp hq (by omega) this
  ·have ha:iY x.nx=true:=decide_eq_true (h4.done c4 λ_ _ _ q r=>Int.lt_trans q r)
   have n2:=(hC.next (b:=false) (by omega) c3 ⟨nofun,λz=>by rw[ht.mpr z]at e;cases e⟩).2 rfl
   exact⟨⟨n2.1,(hI.step (by omega) hx ha).1⟩,n2.2⟩
 have hO:w4 b.rows:=⟨hI.done c3,hC.done c3 λ_ _ _ q r=>Int.lt_trans q r⟩
 rw[if_neg (not_not_intro hO)]
 refine⟨aG.zero,?_⟩
 intro (i4:Int) h5
 refine⟨λc4=>⟨⟨h5.idx,c4,λx hx=>⟨λq=>⟨h5.idx,c4,λx2 hx2 x3 hx3=>?_⟩,λq x3 hx3=>?_⟩⟩,λt ht=>⟨λe=>?_,λe=>?_⟩⟩,λc4=>?_⟩
 ·rw[hx]at hx2 hx3;cases hx2;cases hx3
  rw[gR,decide_eq_true (by omega:1<x.nx.length)];rfl
 ·rw[hx]at hx3;cases hx3
  rw[gR,decide_eq_false (by omega:¬1<x.nx.length)];rfl
 ·have hx:=List.getElem?_eq_getElem (show i4.toNat<b.rows.length by have:=h5.idx;omega)
  rw[if_pos (List.any_eq_true.mpr ⟨_,bq hx,by rw[←ht _ hx,e]⟩)]
 ·have hx:=List.getElem?_eq_getElem (show i4.toNat<b.rows.length by have:=h5.idx;omega)
  exact h5.step ol hx (by rw[←ht _ hx,e])
 ·rw[if_neg]
  rw[List.any_eq_true]
  rintro⟨x,hx,q⟩
  rw[h5.done c4 x hx]at q;cases q
def Uz(b:Tbl):PC Tryz.prog:=⟨111,[(.a [.k,.k,.k,(.s 2)])],[.agg [.int b.router,.int b.sub,.int b.len,.sl 2 (b.rows.map Rw.v) false]],zp (dN b),ao.of_ok λok=>(Uy b ok).elim λI0 h=>h.elim λI1 h=>h.elim λm1 h=>h.elim λI2 h=>h.elim λm2 h=>h.elim λI3 h=>h.elim λm3 h=>h.elim λI4 h=>h.elim λm4 h=>h.elim λI5 h=>h.elim λI6 h=>h.elim λm6 h=>h.elim λI7 h=>h.elim λm7 h=>h.elim λI8 h=>aj (sh:=.k) (enc:=zp) (a:=(zo b I0 I1 m1 I2 m2 I3 m3 I4 m4 I5 I6 m6 I7 m7 I8).an) h (by kernel_rfl) (AV.pureB_ok rfl),ah (by kernel_rfl)⟩
def hd0(l:List Tbl):Tbl:=l.headD ⟨0,0,0,[]⟩
theorem fi{b:Tbl}(h:dN b=0):1≤b.router∧b.router≤99∧b.rows.length≤256∧(aJ b.len=true∨b.len=0∧b.rows=[])∧(∀r∈b.rows,(1≤r.id∧r.id≤256)∧r.nx.length≤24∧∀n∈r.nx,1≤n∧n≤99)∧b.rows.Pairwise λx y=>x.id<y.id:=by
 unfold dN at h
 split at h
 ·cases h
 rename_i h1
 split at h
 ·cases h
 rename_i h2
 split at h
 ·cases h
 rename_i h3
 have h3:=Classical.not_not.mp h3
 have h1:ie b=false:=by simpa using h1
 have h2:=qc (by simpa using h2:gQ b=false)
 obtain⟨h1,h4⟩:=lK.mp h1
 unfold hdB at h1
 have i1:∀{n a c:Int},inP n a c=true→a≤n∧n≤c:=λq=>fh.mp (by rw[q];rfl)
 have h1:(inP b.router 1 99=true∧inP b.sub 0 7=true)∧(aJ b.len=true∨b.len=0∧b.rows.length=0):=by
  cases q1:inP b.router 1 99<;>cases q2:inP b.sub 0 7<;>cases q3:aJ b.len<;>simp_all
 refine⟨(i1 h1.1.1).1,(i1 h1.1.1).2,h2.1,?_,λr hr=>⟨i1 (h4 r hr).1,h2.2 r hr,λn hn=>i1 ((h4 r hr).2 n hn)⟩,h3.2⟩
 rcases h1.2 with q|q
 ·exact .inl q
 ·exact .inr ⟨q.1,List.length_eq_zero_iff.mp q.2⟩
def dZ(nx:List Int)(p:Int):Int:=if nx.length=0 then 0 else nx.getD (p.tmod nx.length).toNat 0
def SQ(r:Rw)(plane:Int):=okL [.agg [.int r.id,.sl 1 (r.nx.map AV.int) false],.int plane]
def xE(r:Int):AV:=.int r
def xD(r:Rw)(plane:Int):Ax Tryz.prog noS (Int):=
 (.br 96 (((r.nx.map AV.int).length:Int)==0) (.ret (0))
(.say (ck (!(((r.nx.map AV.int).length:Int)==0))) (.el 208 AV.int r.nx (λR=>Rf (r.nx.map AV.int) (ck (decide (0≤(plane.tmod ((r.nx.map AV.int).length:Int)))) (ck (decide ((plane.tmod ((r.nx.map AV.int).length:Int))<(r.nx.length:Int)))
(∀x1,r.nx[(plane.tmod ((r.nx.map AV.int).length:Int)).toNat]?=some x1 →
(R x1))))) λx1 =>
(.ret (x1)))))
def BS(r:Rw)(plane:Int)(r0:Int):=(xD r plane).vp xE r0
theorem rV{p:Int}{n:Nat}(h:0≤p)(hn:n≠0):0≤p.tmod n∧p.tmod n<n:=⟨Int.tmod_nonneg _ h,Int.tmod_lt_of_pos _ (show(0:Int)<n by omega)⟩
theorem tz{nx:List Int}{p x:Int}(hn:nx.length≠0)(hx:nx[(p.tmod nx.length).toNat]?=some x):dZ nx p=x:=by
 unfold dZ;rw[if_neg hn,List.getD_eq_getElem?_getD,hx];rfl
theorem SP(r:Rw)(p:Int)(h:0≤p)(ok:SQ r p):BS r p (dZ r.nx p):=by
 dsimp only[BS,xD,noS,Ax.vp,Ax.vc];simp only[vcU,rfU,List.length_map]
 refine⟨λe=>by rw[dZ,if_pos (by have:=eq_of_beq e;omega)],λe=>?_⟩
 have e:r.nx.length≠0:=λq=>by rw[q]at e;simp at e
 have hr:=rV h e
 exact⟨by simp;intro q;rw[q]at e;exact e rfl,hr.1,hr.2,λx hx=>(tz e hx).symm⟩
def HG(r:Rw)(plane:Int)(h:0≤plane):PC Tryz.prog:=⟨151,[(.a [.k,(.s 1)]),.k],[.agg [.int r.id,.sl 1 (r.nx.map AV.int) false],.int plane],xE (dZ r.nx plane),ao.of_ok λok=>aj (sh:=.k) (enc:=xE) (a:=(xD r plane).an) (SP r plane h ok) (by kernel_rfl) (AV.pureB_ok rfl),ah (by kernel_rfl)⟩
def dv(b:Tbl)(id:Int):Rw×Bool:=match b.rows.find? λr=>r.id==id with
 | some r=>(r,true)
 | none=>(⟨0,[]⟩,false)
def Fo(b:Tbl)(id:Int):=okL [.agg [.int b.router,.int b.sub,.int b.len,.sl 2 (b.rows.map Rw.v) false],.int id]
def KY(b:Tbl)(id:Int)(t0:Int):NF:=⟨[(1,.k,.int id),(4,.k,.ref 0 0),(9,.k,.sl 2 (b.rows.map Rw.v) false),(10,.k,.int ((b.rows.map Rw.v).length:Int)),(11,.k,.int t0)],[.box (.agg [.int 0,.sl 0 [] true])]⟩
@[reducible] def Fm:Nat→Type
 | 0=>Int
 | _=>Unit
def vz(r:Rw×Bool):AV:=.tup [Rw.v r.1,.bool r.2]
def vy(b:Tbl)(id:Int)(I0:Int→Prop)(m0:Int→Nat):Ax Tryz.prog Fm (Rw×Bool):=
 (.loop 0 (KY b id) I0 m0 ((0):Int) [16] λ(t0:Int) b0 =>
(.br 17 (decide (t0<((b.rows.map Rw.v).length:Int))) (.el 17 Rw.v b.rows (λR=>Rf (b.rows.map Rw.v) (ck (decide (0≤t0)) (ck (decide (t0<(b.rows.length:Int)))
(∀x1,b.rows[t0.toNat]?=some x1 →
(R x1))))) λx1 =>
(.br 145 (x1.id==id) (.req 193 (x1.nx.length≤1000000) λh2 =>
(.callP (Jg x1.nx h2)
(.ret ((⟨id,x1.nx⟩:Rw),true))))
(.bk 0 b0 ((W (t0+1)):Int) [0])))
(.ret ((⟨0,[]⟩:Rw),false))))
def A8(b:Tbl)(id:Int)(I0:Int→Prop)(m0:Int→Nat)(r0:Rw×Bool):=(vy b id I0 m0).vp vz r0
theorem Q9(b:Tbl)(id:Int)(h:∀r∈b.rows,r.nx.length≤1000000)(ok:Fo b id):∃I m,A8 b id I m (dv b id):=by
 refine⟨λt=>aG b.rows (λr=>(r.id==id)=false) t,λt=>b.rows.length-t.toNat,?_⟩
 simp only[Fo,okU,Blk.ok,az,List.length_map]at ok
 dsimp only[A8,vy,Fm,Ax.vp,Ax.vc];simp only[vcU,rfU,List.length_map]
 refine⟨aG.zero,λt h1=>⟨λc=>⟨h1.idx,c,λx hx=>⟨λq=>⟨h x (bq hx),?_⟩,λq=>h1.step (by omega) hx q⟩⟩,λc=>?_⟩⟩
 ·rw[dv,h1.find (p:=λr:Rw=>r.id==id) hx q,←eq_of_beq q]
 ·rw[dv,h1.nofind (p:=λr:Rw=>r.id==id) c]
def QA(b:Tbl)(id:Int)(h:∀r∈b.rows,r.nx.length≤1000000):PC Tryz.prog:=⟨150,[(.a [.k,.k,.k,(.s 2)]),.k],[.agg [.int b.router,.int b.sub,.int b.len,.sl 2 (b.rows.map Rw.v) false],.int id],vz (dv b id),ao.of_ok λok=>(Q9 b id h ok).elim λI0 h=>h.elim λm0 h=>aj (sh:=(.a [(.a [.k,(.s 1)]),.k])) (enc:=vz) (a:=(vy b id I0 m0).an) h (by kernel_rfl) (AV.pureB_ok rfl),ah (by kernel_rfl)⟩
def Fq(b:Tbl)(id:Int):=okL [.agg [.int b.router,.int b.sub,.int b.len,.sl 2 (b.rows.map Rw.v) false],.int id]
def KZ(b:Tbl)(id:Int)(t0:Int):NF:=⟨[(1,.k,.int id),(2,.k,.ref 0 0),(4,.k,.ref 1 0),(6,.k,.int t0)],[.box (.agg [.int b.router,.int b.sub,.int b.len,.sl 2 (b.rows.map Rw.v) false]),.box (.agg [.int 0,.sl 0 [] true])]⟩
@[reducible] def Fp:Nat→Type
 | 0=>Int
 | _=>Unit
def v8(r:Rw×Bool):AV:=.tup [Rw.v r.1,.bool r.2]
def v7(b:Tbl)(id:Int)(I0:Int→Prop)(m0:Int→Nat):Ax Tryz.prog Fp (Rw×Bool):=
 (.loop 0 (KZ b id) I0 m0 ((0):Int) [0,16] λ(t0:Int) b0 =>
(.br 82 (decide (t0<((b.rows.map Rw.v).length:Int))) (.el 130 Rw.v b.rows (λR=>Rf (b.rows.map Rw.v) (ck (decide (0≤t0)) (ck (decide (t0<(b.rows.length:Int)))
(∀x1,b.rows[t0.toNat]?=some x1 →
(R x1))))) λx1 =>
(.br 210 (x1.id==id) (.el 258 Rw.v b.rows (λR=>Rf (b.rows.map Rw.v) (ck (decide (0≤t0)) (ck (decide (t0<(b.rows.length:Int)))
(∀x2,b.rows[t0.toNat]?=some x2 →
(R x2))))) λx2 =>
(.ret (x2,true)))
(.bk 0 b0 ((W (t0+1)):Int) [0,1])))
(.ret ((⟨0,[]⟩:Rw),false))))
def A9(b:Tbl)(id:Int)(I0:Int→Prop)(m0:Int→Nat)(r0:Rw×Bool):=(v7 b id I0 m0).vp v8 r0
theorem QB(b:Tbl)(id:Int)(ok:Fq b id):∃I m,A9 b id I m (dv b id):=by
 refine⟨λt=>aG b.rows (λr=>(r.id==id)=false) t,λt=>b.rows.length-t.toNat,?_⟩
 simp only[Fq,okU,Blk.ok,az,List.length_map]at ok
 dsimp only[A9,v7,Fp,Ax.vp,Ax.vc];simp only[vcU,rfU,List.length_map]
 refine⟨aG.zero,λt h1=>⟨λc=>⟨h1.idx,c,λx hx=>⟨λq=>⟨h1.idx,c,λy hy=>?_⟩,λq=>h1.step (by omega) hx q⟩⟩,λc=>?_⟩⟩
 ·rw[hx]at hy;cases hy
  rw[dv,h1.find (p:=λr:Rw=>r.id==id) hx q]
 ·rw[dv,h1.nofind (p:=λr:Rw=>r.id==id) c]
def QC(b:Tbl)(id:Int):PC Tryz.prog:=⟨187,[(.a [.k,.k,.k,(.s 2)]),.k],[.agg [.int b.router,.int b.sub,.int b.len,.sl 2 (b.rows.map Rw.v) false],.int id],v8 (dv b id),ao.of_ok λok=>(QB b id ok).elim λI0 h=>h.elim λm0 h=>aj (sh:=(.a [(.a [.k,(.s 1)]),.k])) (enc:=v8) (a:=(v7 b id I0 m0).an) h (by kernel_rfl) (AV.pureB_ok rfl),ah (by kernel_rfl)⟩
def j2(b:Tbl)(id p:Int):Int:=dZ (dv b id).1.nx p
def SS(b:Tbl)(id:Int)(p:Int):=okL [.agg [.int b.router,.int b.sub,.int b.len,.sl 2 (b.rows.map Rw.v) false],.int id,.int p]
def MH(b:Tbl)(id:Int)(p:Int)(t0:Bool):NF:=⟨[(2,.k,.int p),(7,.k,.ref 0 0),(22,.k,.bool t0)],[.box ((Rw.v ((dv b id).1)))]⟩
@[reducible] def HH:Nat→Type
 | 0=>Bool
 | _=>Unit
def xG(r:Int):AV:=.int r
def xF(b:Tbl)(id:Int)(p:Int)(I0:Bool→Prop):Ax Tryz.prog HH (Int):=
 (.callP (QC b id)
(.pass (.join 0 (MH b id p) (λ(t0:Bool)=>I0 t0) (λb0=>(.br 224 (!((dv b id).2)) (.bk 0 b0 ((true):Bool) [128])
(.bk 0 b0 (((((((dv b id).1).nx).map AV.int).length:Int)==0):Bool) [128]))) λ(t0:Bool) =>
(.br 1 t0 (.ret (0))
(.say (ck (!((((((dv b id).1).nx).map AV.int).length:Int)==0))) (.el 113 AV.int (((dv b id).1).nx) (λR=>Rf ((((dv b id).1).nx).map AV.int) (ck (decide (0≤(p.tmod (((((dv b id).1).nx).map AV.int).length:Int)))) (ck (decide ((p.tmod (((((dv b id).1).nx).map AV.int).length:Int))<((((dv b id).1).nx).length:Int)))
(∀x1,(((dv b id).1).nx)[(p.tmod (((((dv b id).1).nx).map AV.int).length:Int)).toNat]?=some x1 →
(R x1))))) λx1 =>
(.ret (x1))))))))
def BU(b:Tbl)(id:Int)(p:Int)(I0:Bool→Prop)(r0:Int):=(xF b id p I0).vp xG r0
theorem KW{b:Tbl}{id:Int}(h:(dv b id).2=false):(dv b id).1.nx=[]:=by
 unfold dv at h ⊢
 split at h
 ·cases h
 ·rfl
theorem SR(b:Tbl)(id p:Int)(h:0≤p)(ok:SS b id p):∃I,BU b id p I (j2 b id p):=by
 refine⟨λt=>t=decide ((dv b id).1.nx.length=0),?_⟩
 dsimp only[BU,xF,HH,Ax.vp,Ax.vc];simp only[vcU,rfU,List.length_map]
 refine⟨⟨λe=>?_,λe=>?_⟩,?_⟩
 ·rw[KW (by simpa using e)];rfl
 ·rw[Bool.eq_iff_iff,beq_iff_eq,decide_eq_true_iff];omega
 rintro _ rfl
 unfold j2
 refine⟨λe=>by rw[dZ,if_pos (of_decide_eq_true e)],λe=>?_⟩
 have e:=of_decide_eq_false e
 have hr:=rV h e
 exact⟨by simp;intro q;rw[q]at e;exact e rfl,hr.1,hr.2,λx hx=>(tz e hx).symm⟩
def HI(b:Tbl)(id:Int)(p:Int)(h:0≤p):PC Tryz.prog:=⟨160,[(.a [.k,.k,.k,(.s 2)]),.k,.k],[.agg [.int b.router,.int b.sub,.int b.len,.sl 2 (b.rows.map Rw.v) false],.int id,.int p],xG (j2 b id p),ao.of_ok λok=>(SR b id p h ok).elim λI0 h=>aj (sh:=.k) (enc:=xG) (a:=(xF b id p I0).an) h (by kernel_rfl) (AV.pureB_ok rfl),ah (by kernel_rfl)⟩
def mvl(b:Tbl)(pl st:Int):Bool:=(dN b==0) && (decide (0≤pl∧pl<8) && decide (0≤st∧st≤31))
def mvl_a(b:Tbl)(plane:Int)(set_:Int):=okL [.agg [.int b.router,.int b.sub,.int b.len,.sl 2 (b.rows.map Rw.v) false],.int plane,.int set_]
def GE(r:Bool):AV:=.bool r
def GC(b:Tbl)(plane:Int)(set_:Int):Ax Tryz.prog noS (Bool):=
 (.callP (Jm b)
(.br 96 ((dN b)==0) (.br 160 (decide (0≤plane)) (.br 224 (decide (plane<8)) (.br 288 (decide (0≤set_)) (.ret (decide (set_≤31)))
(.ret (false)))
(.ret (false)))
(.ret (false)))
(.ret (false))))
def GD(b:Tbl)(plane:Int)(set_:Int)(r0:Bool):=(GC b plane set_).vp GE r0
theorem mvl_p(b:Tbl)(pl st:Int)(ok:mvl_a b pl st):GD b pl st (mvl b pl st):=by
 dsimp only[GD,GC,noS,Ax.vp,Ax.vc];simp only[vcU,rfU,List.length_map]
 unfold mvl
 refine⟨λe=>⟨λe1=>⟨λe2=>⟨λe3=>?_,λe3=>?_⟩,λe2=>?_⟩,λe1=>?_⟩,λe=>by rw[e];rfl⟩<;>simp[e, *]
def P3(b:Tbl)(plane:Int)(set_:Int):PC Tryz.prog:=⟨149,[(.a [.k,.k,.k,(.s 2)]),.k,.k],[.agg [.int b.router,.int b.sub,.int b.len,.sl 2 (b.rows.map Rw.v) false],.int plane,.int set_],GE (mvl b plane set_),ao.of_ok λok=>aj (sh:=.k) (enc:=GE) (a:=(GC b plane set_).an) (mvl_p b plane set_ ok) (by kernel_rfl) (AV.pureB_ok rfl),ah (by kernel_rfl)⟩
theorem pI{b:Tbl}{pl st:Int}:mvl b pl st=true↔dN b=0∧(0≤pl∧pl<8)∧0≤st∧st≤31:=by
 unfold mvl;rw[Bool.and_eq_true,Bool.and_eq_true,decide_eq_true_iff,decide_eq_true_iff,beq_iff_eq]
def wE(b:Tbl)(id pl:Int):Int:=if mvl b pl 0=true then j2 b id pl else 0
def RP(b:Tbl)(id:Int)(plane:Int):=okL [.agg [.int b.router,.int b.sub,.int b.len,.sl 2 (b.rows.map Rw.v) false],.int id,.int plane]
def wD(r:Int):AV:=.int r
def wC(b:Tbl)(id:Int)(plane:Int):Ax Tryz.prog noS (Int):=
 (.callP (P3 b plane 0)
(.br 96 (!(mvl b plane 0)) (.ret (0))
(.req 128 (∀r∈b.rows,r.nx.length≤1000000) λh1 =>
(.callP (QA b id h1)
(.req 272 (0≤plane) λh2 =>
(.callP (HG ((dv b id).1) plane h2)
(.ret (dZ ((dv b id).1).nx plane))))))))
def Br(b:Tbl)(id:Int)(plane:Int)(r0:Int):=(wC b id plane).vp wD r0
theorem RN(b:Tbl)(id pl:Int)(ok:RP b id pl):Br b id pl (wE b id pl):=by
 dsimp only[Br,wC,noS,Ax.vp,Ax.vc];simp only[vcU,rfU,List.length_map]
 unfold wE
 refine⟨λe=>by rw[if_neg (by simpa using e)],λe=>?_⟩
 have e:mvl b pl 0=true:=by simpa using e
 have h:=pI.mp e
 rw[if_pos e]
 exact⟨λr hr=>by have:=((fi h.1).2.2.2.2.1 r hr).2.1;omega,by omega,rfl⟩
def RO(b:Tbl)(id:Int)(plane:Int):PC Tryz.prog:=⟨91,[(.a [.k,.k,.k,(.s 2)]),.k,.k],[.agg [.int b.router,.int b.sub,.int b.len,.sl 2 (b.rows.map Rw.v) false],.int id,.int plane],wD (wE b id plane),ao.of_ok λok=>aj (sh:=.k) (enc:=wD) (a:=(wC b id plane).an) (RN b id plane ok) (by kernel_rfl) (AV.pureB_ok rfl),ah (by kernel_rfl)⟩
end Go.Proofs.YtdbdndmdbbihbaaGreatDoor
namespace Go.Proofs.YtdbdndmdbbihbaaGreatDoor
open Go Go.Am Go.RowKit
def tzR:Shelf.Ren:=⟨λ_=>148,λt=>if t=3 then 3 else if t=4 then 4 else if t=5 then 5 else if t=22 then 23 else if t=25 then 143 else if t=54 then 215 else 0,λ_=>0⟩
theorem K6:Lays7.n29 Tryz.prog tzR where
 mixed:=by kernel_rfl
 f29:=by kernel_rfl
 t0:=by kernel_rfl
 a0:=λw=>by kernel_rfl
 z0:=λw=>by kernel_rfl
 v0:=λw=>by kernel_rfl
 i0:=by kernel_rfl
 t3:=by kernel_rfl
 a3:=λw=>by kernel_rfl
 z3:=λw=>by kernel_rfl
 v3:=λw=>by kernel_rfl
 i3:=by kernel_rfl
 t4:=by kernel_rfl
 a4:=λw=>by kernel_rfl
 z4:=λw=>by kernel_rfl
 v4:=λw=>by kernel_rfl
 i4:=by kernel_rfl
 t5:=by kernel_rfl
 a5:=λw=>by kernel_rfl
 z5:=λw=>by kernel_rfl
 v5:=λw=>by kernel_rfl
 i5:=by kernel_rfl
 t22:=by kernel_rfl
 a22:=λw=>by kernel_rfl
 z22:=λw=>by kernel_rfl
 v22:=λw=>by kernel_rfl
 i22:=by kernel_rfl
 t25:=by kernel_rfl
 a25:=λw=>by kernel_rfl
 z25:=λw=>by kernel_rfl
 v25:=λw=>by kernel_rfl
 i25:=by kernel_rfl
 t54:=by kernel_rfl
 a54:=λw=>by kernel_rfl
 z54:=λw=>by kernel_rfl
 g1:=by kernel_rfl
def mV(b:Int):Int:=(Lib.ctz 64 b.toNat:Nat)
theorem EJ(b:Int)(h:0≤b∧b<18446744073709551616):0≤mV b∧mV b≤64:=by
 refine⟨by unfold mV;omega,?_⟩
 unfold mV Lib.ctz
 split
 ·omega
 ·have:=(Lib.ctzFrom_spec 64 b.toNat (by omega) (by omega)).choose_spec.2
  omega
theorem D0{P:Program}{f:FuncId}{args:List AV}{n:Int}(hn:-9223372036854775808≤n∧n≤9223372036854775807)(h:∀(w:World) (A:Nat→Prop) (cargs:List Value),LtOk P A w→RVL w A args cX cargs→Calls P f cargs.toArray w λe w'=>e=.returned (.int .i64 n)∧w'=w):ao P f args (.int n):=by
 intro w A cargs hl ha
 refine(h w A cargs hl ha).mono ?_
 rintro e w' ⟨rfl,rfl⟩
 refine⟨_,A,rfl,⟨rfl,?_⟩,⟨rfl,rfl,rfl,Nat.le_refl _,λk hk _=>rfl⟩,λ_ h=>h,λ_ h=>.inl h,hl.f⟩
 simpa only[az,H8]using hn
theorem K5 (b : Int) : ao Tryz.prog 148 [.val (.int .u64 b)] (.int (mV b)) := by
  refine ao.of_ok fun ok => ?_
  have hb : 0 ≤ b ∧ b < 18446744073709551616 := by
    simp only [okL, AV.ok, az, and_true] at ok
    replace ok : IntKind.u64.min ≤ b ∧ b ≤ IntKind.u64.max := ok
    simp [IntKind.min, IntKind.max, IntKind.bits, IntKind.signed] at ok
    omega
  have hr := EJ b hb
  refine D0 (by omega) fun w A cargs hl ha => ?_
  obtain ⟨v, vs, rfl, ⟨rfl, _⟩, rfl⟩ := ha
  have hg : Program.globalNamed Tryz.prog "math/bits.deBruijn64tab" = some 0 := by kernel_rfl
  have ht := (hl.t _ _ _ _ rfl hg).2
  have key := Any7.bits_TrailingZeros64 K6 b.toNat (by omega) w fun _ j hj => by
    have hc := ht.cell hg j (by rw [List.length_map]; exact hj)
    have e : ((Lib.deBruijn64tab.map Int.ofNat).getD j 0) = ((Lib.deBruijn64tab.getD j 0 : Nat) : Int) := by
      rw [List.getD_eq_getElem?_getD, List.getD_eq_getElem?_getD, List.getElem?_map, List.getElem?_eq_getElem hj]; rfl
    rw [e] at hc
    exact hc
  rw [Int.toNat_of_nonneg hb.1] at key
  exact key
def tz_c(b:Int):PC Tryz.prog:=⟨148,[.k],[.val (.int .u64 b)],.int (mV b),K5 b,ah (by kernel_rfl)⟩
end Go.Proofs.YtdbdndmdbbihbaaGreatDoor
namespace Go.Proofs.YtdbdndmdbbihbaaGreatDoor
open Go Go.Am
def bS(b:Int):Int:=if b=0 then -1 else mV b
def Ty(b:Int):=okL [.val (.int .u64 b)]
def ye(r:Int):AV:=.int r
def yd(b:Int):Ax Tryz.prog noS (Int):=
 (.br 48 (b==0) (.ret (-1))
(.callP (tz_c b)
(.ret (mV b))))
def Cm(b:Int)(r0:Int):=(yd b).vp ye r0
theorem Tx(b:Int)(ok:Ty b):Cm b (bS b):=by
 dsimp only[Cm,yd,noS,Ax.vp,Ax.vc];simp only[vcU,rfU,List.length_map]
 refine⟨λc=>?_,λc=>?_⟩
 ·rw[bS,if_pos (eq_of_beq c)]
 ·rw[bS,if_neg (by simpa using c)]
def Id(b:Int):PC Tryz.prog:=⟨90,[.k],[.val (.int .u64 b)],ye (bS b),ao.of_ok λok=>aj (sh:=.k) (enc:=ye) (a:=(yd b).an) (Tx b ok) (by kernel_rfl) (AV.pureB_ok rfl),ah (by kernel_rfl)⟩
def bG(b:Int):List Int:=((List.range 64).filter b.toNat.testBit).map λ(k:Nat)=>(k:Int)
theorem mE{p q:Nat→Bool}:∀{n k:Nat},k<n→(∀j,j<k→p j=false∧q j=false)→p k=true→q k=false→(∀j,k<j→p j=q j)→(List.range n).filter p=k::(List.range n).filter q
 | n+1,k,hk,h1,h2,h3,h4=>by
  rw[List.range_succ,List.filter_append,List.filter_append]
  by_cases e:k=n
  ·subst e
   have a:(List.range k).filter p=[]:=List.filter_eq_nil_iff.mpr λj hj=>by simp[(h1 j (List.mem_range.mp hj)).1]
   have b:(List.range k).filter q=[]:=List.filter_eq_nil_iff.mpr λj hj=>by simp[(h1 j (List.mem_range.mp hj)).2]
   rw[a,b];simp[h2,h3]
  ·rw[mE (n:=n) (k:=k) (by omega) h1 h2 h3 h4]
   have:p n=q n:=h4 n (by omega)
   rw[List.filter_cons,List.filter_cons,this];rfl
theorem jv{x:Nat}(h0:x≠0)(hx:x<18446744073709551616):(List.range 64).filter x.testBit=Lib.ctz 64 x::(List.range 64).filter (x &&& (x-1)).testBit:=by
 obtain⟨m,hm,hk⟩:=Lib.ctzFrom_spec 64 x (by omega) hx
 have e:Lib.ctz 64 x=Lib.ctzFrom 64 x:=by rw[Lib.ctz,if_neg h0]
 rw[e]
 generalize Lib.ctzFrom 64 x=k at hm hk
 have hp:=Nat.two_pow_pos k
 have b1:∀j,x.testBit j=if j<k then(0:Nat).testBit j else(2 * m+1).testBit (j-k):=λj=>by
  have q:=Nat.testBit_two_pow_mul_add (2 * m+1) hp j
  rw[Nat.add_zero]at q
  rw[hm,q]
 have b2:∀j,(x-1).testBit j=if j<k then(2 ^ k-1).testBit j else(2 * m).testBit (j-k):=λj=>by
  have:x-1=2 ^ k * (2 * m)+(2 ^ k-1):=by rw[hm,Nat.mul_add,Nat.mul_one];omega
  rw[this,Nat.testBit_two_pow_mul_add _ (by omega)]
 have b3:∀j,(x &&& (x-1)).testBit j=if j<k then false else(2 * m).testBit (j-k):=λj=>by
  rw[Nat.testBit_and,b1,b2]
  by_cases c:j<k
  ·simp[c]
  ·simp only[c,if_false]
   cases d:j-k with
   | zero=>simp[Nat.testBit_zero]
   | succ s =>
    rw[Nat.testBit_succ,Nat.testBit_succ,show(2 * m+1) / 2=m by omega,show 2 * m / 2=m by omega,Bool.and_self]
 refine mE hk (λj hj=>⟨by rw[b1,if_pos hj];simp,by rw[b3,if_pos hj]⟩) ?_ ?_ λj hj=>?_
 ·rw[b1,if_neg (by omega),Nat.sub_self,Nat.testBit_zero];simp
 ·rw[b3,if_neg (by omega),Nat.sub_self,Nat.testBit_zero];simp
 ·rw[b1,b3,if_neg (by omega),if_neg (by omega)]
  obtain⟨s,hs⟩:∃s,j-k=s+1:=⟨j-k-1,by omega⟩
  rw[hs,Nat.testBit_succ,Nat.testBit_succ,show(2 * m+1) / 2=m by omega,show 2 * m / 2=m by omega]
abbrev lstB:=bG
def GX(b:Int):=okL [.val (.int .u64 b)]
def Mz(t0:Int×List Int):NF:=⟨[(0,.k,.val (.int .u64 t0.1)),(3,.k,.vec 0)],[.vec 1 (t0.2.map AV.int) (ab (λ_=>rfl) t0.2)]⟩
@[reducible] def GW:Nat→Type
 | 0=>Int×List Int
 | _=>Unit
def xc(r:List Int):AV:=.sl 1 (r.map AV.int) false
def xa(b:Int)(I0:(Int×List Int)→Prop)(m0:(Int×List Int)→Nat):Ax Tryz.prog GW ((List Int)):=
 (.cmdL (.nilT 3 1) (.loop 0 (Mz) I0 m0 (b,[]) [32] λ(t0:Int×List Int) b0 =>
(.br 33 (t0.1 != 0) (.callP (Id t0.1)
(.say (λR=>Rf (α:=List AV) (t0.2.map AV.int) (Rf (α:=List AV) [.int (bS t0.1)]
(ck (decide (t0.2.length+1≤1048576))
R))) (.app 97 AV.int t0.2 [bS t0.1]
(.bk 0 b0 (dF .u64 t0.1 (IntKind.u64.wrap (t0.1-1)),t0.2++[bS t0.1]) [97]))))
(.say (Rf (t0.2.map AV.int)) (.cmdL (.frzE 0 (t0.2.map AV.int) (ab (λ_=>rfl) t0.2)) (.ret (t0.2)))))))
def B7(b:Int)(I0:(Int×List Int)→Prop)(m0:(Int×List Int)→Nat)(r0:List Int):=(xa b I0 m0).vp xc r0
theorem K4{x:Nat}(h0:x≠0)(hx:x<18446744073709551616):IntKind.u64.wrap ((x:Int)-1)=((x-1:Nat):Int):=by
 rw[show(x:Int)-1=((x-1:Nat):Int) by omega]
 exact dO (by omega)
theorem Sz(b:Int)(ok:GX b):∃I m,B7 b I m (lstB b):=by
 have hb:0≤b∧b<18446744073709551616:=by
  simp only[GX,okL,AV.ok,az,and_true]at ok
  replace ok:IntKind.u64.min≤b∧b≤IntKind.u64.max:=ok
  simp[IntKind.min,IntKind.max,IntKind.bits,IntKind.signed]at ok
  omega
 refine⟨λt=>∃x:Nat,t.1=x∧x<18446744073709551616∧bG b=t.2++bG x,λt=>(bG t.1).length,?_⟩
 dsimp only[B7,xa,GW,Ax.vp,Ax.vc];simp only[vcU,rfU,List.length_map]
 refine⟨⟨b.toNat,by omega,by omega,by rw[Int.toNat_of_nonneg hb.1];rfl⟩,?_⟩
 rintro⟨_,out⟩ ⟨x,rfl,hx,h⟩
 simp only at h ⊢
 have hlen:(bG b).length≤64:=by
  have:=List.length_filter_le b.toNat.testBit (List.range 64)
  rw[List.length_range]at this
  unfold bG;rw[List.length_map];exact this
 refine⟨λc=>?_,λc=>?_⟩
 ·have c:x≠0:=by simpa using c
  have hl:=jv c hx
  have e1:bG (x:Int)=bS (x:Int)::bG ((x &&& (x-1):Nat):Int):=by
   unfold bG
   rw[Int.toNat_natCast,Int.toNat_natCast,hl,bS,if_neg (by omega)];rfl
  have h2:=congrArg List.length h
  rw[e1,List.length_append,List.length_cons]at h2
  rw[K4 c hx,ga hx (by omega)]
  refine⟨by omega,⟨x &&& (x-1),rfl,Nat.lt_of_le_of_lt Nat.and_le_left hx,?_⟩,?_⟩
  ·rw[h,e1];simp
  ·rw[e1,List.length_cons];omega
 ·have c:x=0:=by simpa using c
  subst c
  have e0:bG ((0:Nat):Int)=[]:=by unfold bG;simp
  rw[e0,List.append_nil]at h
  exact h.symm
def S0(b:Int):PC Tryz.prog:=⟨44,[.k],[.val (.int .u64 b)],xc (bG b),ao.of_ok λok=>(Sz b ok).elim λI0 h=>h.elim λm0 h=>aj (sh:=(.s 1)) (enc:=xc) (a:=(xa b I0 m0).an) h (by kernel_rfl) (AV.pureB_ok rfl),ah (by kernel_rfl)⟩
theorem u9{a b:Nat}(ha:a<18446744073709551616)(hb:b<18446744073709551616):∃z:Nat,co .u64 (a:Int) (b:Int)=z∧z<18446744073709551616∧∀i,z.testBit i=(a.testBit i && !b.testBit i):=by
 have hz:((BitVec.ofInt 64 (a:Int)) &&& ~~~(BitVec.ofInt 64 (b:Int))).toNat<18446744073709551616:=BitVec.isLt _
 refine⟨_,?_,hz,λi=>?_⟩
 ·unfold co
  rw[show IntKind.u64.bits=64 from rfl]
  exact dO hz
 ·have e:∀(x:BitVec 64) i,x.toNat.testBit i=x.getLsbD i:=λx i=>rfl
  rw[e,BitVec.getLsbD_and,BitVec.getLsbD_not,BitVec.getLsbD,BitVec.getLsbD,rp ha,rp hb]
  by_cases h:i<64
  ·simp[h]
  ·rw[Nat.testBit_lt_two_pow (x:=a) (i:=i) (Nat.lt_of_lt_of_le ha (Nat.pow_le_pow_right (show 0<2 by omega) (show 64≤i by omega)))];simp
theorem jE{k:Nat}(h:k<64):bB (k:Int)=((2 ^ k:Nat):Int):=by
 unfold bB;rw[if_neg (by omega),lw h]
theorem lC{k:Nat}(h:k<64):2 ^ k<18446744073709551616:=Nat.pow_lt_pow_right (n:=64) (by omega) h
theorem Cn{x:Nat}(h0:x≠0)(hx:x<18446744073709551616):∃k:Nat,bS (x:Int)=k∧k<64∧x.testBit k=true:=by
 have h:=jv h0 hx
 have hm:Lib.ctz 64 x∈(List.range 64).filter x.testBit:=by rw[h];simp
 rw[List.mem_filter,List.mem_range]at hm
 refine⟨Lib.ctz 64 x,?_,hm.1,hm.2⟩
 unfold bS mV
 rw[if_neg (by omega),Int.toNat_natCast]
theorem fZ(x:Nat):bG (x:Int)=((List.range 64).filter x.testBit).map λ(k:Nat)=>(k:Int):=by unfold bG;rw[Int.toNat_natCast]
theorem jF(x:Int):(bG x).length≤64:=by
 unfold bG
 rw[List.length_map]
 exact Nat.le_trans (List.length_filter_le _ _) (by simp)
theorem JG{x:Nat}(h0:x≠0)(hx:x<18446744073709551616):0<(bG x).length:=by
 rw[fZ,jv h0 hx];simp
theorem Cq{α:Type}{p q:α→Bool}:∀{l:List α},(∀x∈l,q x=true→p x=true)→(∃x∈l,p x=true∧q x=false)→(l.filter q).length<(l.filter p).length
 | [],_,⟨x,hx,_⟩=>by cases hx
 | y::l,h1,⟨x,hx,h2,h3⟩=>by
  have hle:∀l:List α,(∀x∈l,q x=true→p x=true)→(l.filter q).length≤(l.filter p).length:=λl h=>by
   induction l with
   | nil=>exact Nat.le_refl _
   | cons z l ih =>
    have i1:=ih λw hw=>h w (by simp[hw])
    have i2:=h z (by simp)
    rw[List.filter_cons,List.filter_cons]
    cases hq:q z<;>cases hp:p z<;>simp_all<;>omega
  rw[List.filter_cons,List.filter_cons]
  have i2:=h1 y (by simp)
  rcases List.mem_cons.mp hx with rfl|hx
  ·have:=hle l λw hw=>h1 w (by simp[hw])
   rw[h2,h3];simp;omega
  ·have:=Cq (l:=l) (λw hw=>h1 w (by simp[hw])) ⟨x,hx,h2,h3⟩
   cases hq:q y<;>cases hp:p y<;>simp_all<;>omega
theorem OX{x z k:Nat}(hk:k<64)(h1:x.testBit k=true)(h2:z.testBit k=false)(h:∀i,z.testBit i=true→x.testBit i=true):(bG z).length<(bG x).length:=by
 rw[fZ,fZ,List.length_map,List.length_map]
 exact Cq (λi _=>h i) ⟨k,List.mem_range.mpr hk,h1,h2⟩
def orQ(q:Nat→Bool):Nat→Nat
 | 0=>0
 | n+1=>if q n=true then orQ q n ||| 2 ^ n else orQ q n
theorem jq(q:Nat→Bool):∀n i,(orQ q n).testBit i=(decide (i<n) && q i)
 | 0,i=>by simp[orQ]
 | n+1,i=>by
  rw[orQ]
  have ih:=jq q n i
  by_cases e:i=n
  ·subst e
   cases h:q i<;>simp[h,ih,Nat.testBit_or,Nat.testBit_two_pow]
  ·have e2:decide (i<n+1)=decide (i<n):=decide_eq_decide.mpr (by omega)
   rw[e2]
   split
   ·rw[Nat.testBit_or,ih,Nat.testBit_two_pow,decide_eq_false (show ¬n=i from λh=>e h.symm),Bool.or_false]
   ·exact ih
theorem w6(q:Nat→Bool):∀n,orQ q n<2 ^ n
 | 0=>by simp[orQ]
 | n+1=>by
  have ih:=w6 q n
  have h2:2 ^ n<2 ^ (n+1):=Nat.pow_lt_pow_right (by omega) (by omega)
  rw[orQ];split
  ·exact Nat.or_lt_two_pow (Nat.lt_trans ih h2) h2
  ·exact Nat.lt_trans ih h2
theorem ju{a b:Nat}(h:∀i,a.testBit i=b.testBit i):a=b:=Nat.eq_of_testBit_eq h
def lP(b:Tbl)(p st h:Int)(k:Nat):Bool:=(decide ((k:Int)<b.len) && (atT st k b.len).2) && decide (j2 b (atT st k b.len).1 p=h)
def lO(b:Tbl)(p st h:Int):Int:=(orQ (lP b p st h) 64:Nat)
def Sr(b:Tbl)(p:Int)(set_:Int)(neighbour:Int):=okL [.agg [.int b.router,.int b.sub,.int b.len,.sl 2 (b.rows.map Rw.v) false],.int p,.int set_,.int neighbour]
def Mr(b:Tbl)(p:Int)(set_:Int)(neighbour:Int)(t0:Int×Int):NF:=⟨[(1,.k,.int p),(2,.k,.int set_),(3,.k,.int neighbour),(4,.k,.ref 0 0),(9,.k,.val (.int .u64 t0.1)),(10,.k,.int t0.2)],[.box (.agg [.int b.router,.int b.sub,.int b.len,.sl 2 (b.rows.map Rw.v) false])]⟩
def Mq(b:Tbl)(p:Int)(set_:Int)(neighbour:Int)(t0:Int×Int)(t1:Bool):NF:=⟨[(1,.k,.int p),(2,.k,.int set_),(3,.k,.int neighbour),(4,.k,.ref 0 0),(9,.k,.val (.int .u64 t0.1)),(10,.k,.int t0.2),(39,.k,.bool t1)],[.box (.agg [.int b.router,.int b.sub,.int b.len,.sl 2 (b.rows.map Rw.v) false])]⟩
@[reducible] def GK:Nat→Type
 | 0=>Int×Int
 | 1=>Bool
 | _=>Unit
def wV(r:Int):AV:=.val (.int .u64 r)
def wU(b:Tbl)(p:Int)(set_:Int)(neighbour:Int)(I0:(Int×Int)→Prop)(m0:(Int×Int)→Nat)(I1:Int×Int→Bool→Prop):Ax Tryz.prog GK (Int):=
 (.loop 0 (Mr b p set_ neighbour) I0 m0 (0,0) [0] λ(t0:Int×Int) b0 =>
(.br 65 (decide (t0.2<b.len)) (.callP (JN set_ t0.2 b.len)
(.join 1 (Mq b p set_ neighbour t0) (λ(t1:Bool)=>I1 t0 t1) (λb1=>(.br 257 ((atT set_ t0.2 b.len).2) (.br 321 (decide (0<neighbour)) (.req 369 (0≤p) λh1 =>
(.callP (HI b ((atT set_ t0.2 b.len).1) p h1)
(.bk 1 b1 (((j2 b ((atT set_ t0.2 b.len).1) p)==neighbour):Bool) [0])))
(.bk 1 b1 ((false):Bool) [0]))
(.bk 1 b1 ((false):Bool) [0]))) λ(t1:Bool) =>
(.br 1 t1 (.callP (iW t0.2)
(.bk 0 b0 (bOr .u64 t0.1 (bB t0.2),W (t0.2+1)) [0]))
(.bk 0 b0 (t0.1,W (t0.2+1)) [0]))))
(.ret (t0.1))))
def B2(b:Tbl)(p:Int)(set_:Int)(neighbour:Int)(I0:(Int×Int)→Prop)(m0:(Int×Int)→Nat)(I1:Int×Int→Bool→Prop)(r0:Int):=(wU b p set_ neighbour I0 m0 I1).vp wV r0
theorem RD{q:Nat→Bool}{n m:Nat}(h:∀k,n≤k→q k=false)(hnm:n≤m):orQ q m=orQ q n:=by
 refine ju λi=>?_
 rw[jq,jq]
 by_cases e:i<n
 ·rw[decide_eq_true e,decide_eq_true (by omega)]
 ·rw[h i (by omega)];simp
theorem Qp{x:Int}(h:0≤x∧x<18446744073709551616):∃n:Nat,x=n∧n<18446744073709551616:=⟨x.toNat,by omega,by omega⟩
theorem So(b:Tbl)(p st n:Int)(h:dN b=0∧0≤p∧1≤n)(ok:Sr b p st n):∃I0 m0 I1,B2 b p st n I0 m0 I1 (lO b p st n):=by
 refine⟨λs=>∃k:Nat,s.2=k∧k≤b.len.toNat∧s.1=(orQ (lP b p st n) k:Nat),λs=>b.len.toNat-s.2.toNat,λs t=>t=lP b p st n s.2.toNat,?_⟩
 dsimp only[B2,wU,GK,Ax.vp,Ax.vc];simp only[vcU,rfU,List.length_map]
 obtain⟨hc,hp,hn⟩:=h
 have hl:0≤b.len∧b.len≤64:=by
  rcases(fi hc).2.2.2.1 with q|q
  ·have:=bL.mp q;omega
  ·omega
 refine⟨⟨0,rfl,by omega,rfl⟩,?_⟩
 rintro⟨out,bit⟩ ⟨k,h1,h2,h3⟩
 simp only at h1 h3 ⊢
 subst h1;subst h3
 simp only[Int.toNat_natCast]
 refine⟨λc=>⟨⟨λe=>⟨λe1=>⟨hp,?_⟩,λe1=>by omega⟩,λe=>?_⟩,?_⟩,λc=>?_⟩
 ·rw[lP,decide_eq_true c,e,Bool.true_and,Bool.true_and,Bool.eq_iff_iff,beq_iff_eq,decide_eq_true_iff]
 ·rw[lP,e];simp
 ·rintro _ rfl
  rw[aU (n:=b.len.toNat) (by omega) (by omega)]
  refine⟨λe=>⟨⟨k+1,rfl,by omega,?_⟩,by omega⟩,λe=>⟨⟨k+1,rfl,by omega,?_⟩,by omega⟩⟩
  ·rw[jE (by omega),li (Nat.lt_of_lt_of_le (w6 _ k) (Nat.le_of_lt (lC (by omega)))) (lC (by omega)),orQ,if_pos e]
  ·rw[orQ,if_neg (by rw[e];simp)]
 ·have:k=b.len.toNat:=by omega
  subst this
  have e:orQ (lP b p st n) 64=orQ (lP b p st n) b.len.toNat:=RD (λj hj=>by rw[lP,decide_eq_false (by omega:¬(j:Int)<b.len)];rfl) (by omega)
  rw[lO,e]
def Sp(b:Tbl)(p:Int)(set_:Int)(neighbour:Int)(h:dN b=0∧0≤p∧1≤neighbour):PC Tryz.prog:=⟨162,[(.a [.k,.k,.k,(.s 2)]),.k,.k,.k],[.agg [.int b.router,.int b.sub,.int b.len,.sl 2 (b.rows.map Rw.v) false],.int p,.int set_,.int neighbour],wV (lO b p set_ neighbour),ao.of_ok λok=>(So b p set_ neighbour h ok).elim λI0 h=>h.elim λm0 h=>h.elim λI1 h=>aj (sh:=.k) (enc:=wV) (a:=(wU b p set_ neighbour I0 m0 I1).an) h (by kernel_rfl) (AV.pureB_ok rfl),ah (by kernel_rfl)⟩
def zd(b:Tbl)(p st:Int)(m:List (Int×Int))(r:Rw):List (Int×Int):=
 if(cw r.id b.len).1=st∧dZ r.nx p≠0 then bJ m (dZ r.nx p) (bOr .u64 (ay m (dZ r.nx p) 0) (gX .u64 1 (cw r.id b.len).2.1))else m
def zc(b:Tbl)(p st:Int):List (Int×Int):=b.rows.foldl (zd b p st) []
def Up(b:Tbl)(plane:Int)(set_:Int):=okL [.agg [.int b.router,.int b.sub,.int b.len,.sl 2 (b.rows.map Rw.v) false],.int plane,.int set_]
def NZ(b:Tbl)(plane:Int)(set_:Int)(t0:Int×(List (Int×Int))):NF:=⟨[(1,.k,.int plane),(2,.k,.int set_),(3,.k,.ref 0 0),(7,.k,.mref 1),(16,.k,.sl 2 (b.rows.map Rw.v) false),(17,.k,.int ((b.rows.map Rw.v).length:Int)),(18,.k,.int t0.1)],[.box (.agg [.int b.router,.int b.sub,.int b.len,.sl 2 (b.rows.map Rw.v) false]),.map none (t0.2.map λp=>MK.n p.1) (t0.2.map λp=>(λx=>AV.val (.int .u64 x)) p.2) (ab (λ_=>rfl) _)]⟩
def NY(b:Tbl)(plane:Int)(set_:Int)(t0:Int×(List (Int×Int)))(x1:Rw)(t1:Bool):NF:=⟨[(1,.k,.int plane),(2,.k,.int set_),(3,.k,.ref 0 0),(7,.k,.mref 1),(11,.k,.int ((cw x1.id b.len).2.1)),(13,.k,.int (dZ x1.nx plane)),(16,.k,.sl 2 (b.rows.map Rw.v) false),(17,.k,.int ((b.rows.map Rw.v).length:Int)),(18,.k,.int t0.1),(40,.k,.bool t1)],[.box (.agg [.int b.router,.int b.sub,.int b.len,.sl 2 (b.rows.map Rw.v) false]),.map none (t0.2.map λp=>MK.n p.1) (t0.2.map λp=>(λx=>AV.val (.int .u64 x)) p.2) (ab (λ_=>rfl) _)]⟩
@[reducible] def Jc:Nat→Type
 | 0=>Int×(List (Int×Int))
 | 1=>Bool
 | _=>Unit
def zb(r:(List (Int×Int))):AV:=.mp none (r.map λp:Int×Int=>MK.n p.1) (r.map λp:Int×Int=>(λx=>AV.val (.int .u64 x)) p.2)
def za(b:Tbl)(plane:Int)(set_:Int)(I0:(Int×(List (Int×Int)))→Prop)(m0:(Int×(List (Int×Int)))→Nat)(I1:Int×(List (Int×Int))→Rw→Bool→Prop):Ax Tryz.prog Jc ((List (Int×Int))):=
 (.loop 0 (NZ b plane set_) I0 m0 (0,([]:List (Int×Int))) [0,32] λ(t0:Int×(List (Int×Int))) b0 =>
(.br 18 (decide (t0.1<((b.rows.map Rw.v).length:Int))) (.el 18 Rw.v b.rows (λR=>Rf (b.rows.map Rw.v) (ck (decide (0≤t0.1)) (ck (decide (t0.1<(b.rows.length:Int)))
(∀x1,b.rows[t0.1.toNat]?=some x1 →
(R x1))))) λx1 =>
(.callP (Ro x1.id b.len)
(.req 306 (0≤plane) λh2 =>
(.callP (HG x1 plane h2)
(.join 1 (NY b plane set_ t0 x1) (λ(t1:Bool)=>I1 t0 x1 t1) (λb1=>(.br 402 (((cw x1.id b.len).1)==set_) (.bk 1 b1 (((dZ x1.nx plane) != 0):Bool) [0,1])
(.bk 1 b1 ((false):Bool) [0,1]))) λ(t1:Bool) =>
(.br 2 t1 (.mn 34 (fF (λx=>AV.val (.int .u64 x)) t0.2 (dZ x1.nx plane) 0) (.say (ck (decide (0≤((cw x1.id b.len).2.1)))) (.mn 98 (pN (λx=>AV.val (.int .u64 x)) t0.2 (dZ x1.nx plane) (bOr .u64 (ay t0.2 (dZ x1.nx plane) 0) (gX .u64 1 ((cw x1.id b.len).2.1)))) (.bk 0 b0 (W (t0.1+1),bJ t0.2 (dZ x1.nx plane) (bOr .u64 (ay t0.2 (dZ x1.nx plane) 0) (gX .u64 1 ((cw x1.id b.len).2.1)))) [0,1]))))
(.bk 0 b0 (W (t0.1+1),t0.2) [0,1])))))))
(.say (Rf (t0.2.map λp=>(λx=>AV.val (.int .u64 x)) p.2)) (.cmdL (.frzM 1 (t0.2.map λp=>(λx=>AV.val (.int .u64 x)) p.2) (ab (λ_=>rfl) _)) (.ret (t0.2))))))
def CK(b:Tbl)(plane:Int)(set_:Int)(I0:(Int×(List (Int×Int)))→Prop)(m0:(Int×(List (Int×Int)))→Nat)(I1:Int×(List (Int×Int))→Rw→Bool→Prop)(r0:(List (Int×Int))):=(za b plane set_ I0 m0 I1).vp zb r0
theorem Un(b:Tbl)(p st:Int)(hc:dN b=0)(hp:0≤p)(ok:Up b p st):∃I0 m0 I1,CK b p st I0 m0 I1 (zc b p st):=by
 refine⟨λs=>dW b.rows (zd b p st) [] s.1 s.2,λs=>b.rows.length-s.1.toNat,λs x t=>t=decide ((cw x.id b.len).1=st∧dZ x.nx p≠0),?_⟩
 dsimp only[CK,za,Jc,Ax.vp,Ax.vc];simp only[vcU,rfU,List.length_map]
 have hl:=(fi hc).2.2.1
 refine⟨dW.zero,?_⟩
 rintro⟨i,m⟩ hG
 simp only at hG ⊢
 refine⟨λc=>⟨hG.idx,c,λx hx=>⟨hp,⟨λe=>?_,λe=>?_⟩,?_⟩⟩,λc=>by rw[hG.done c];rfl⟩
 ·have e:=eq_of_beq e
  rw[Bool.eq_iff_iff,bne_iff_ne,decide_eq_true_iff];simp[e]
 ·have e:¬(cw x.id b.len).1=st:=by simpa using e
  exact(decide_eq_false λq=>e q.1).symm
 ·rintro _ rfl
  refine⟨λe=>⟨(AQ (id:=x.id) (len:=b.len)).1,hG.step (by omega) hx (by rw[zd,if_pos (of_decide_eq_true e)])⟩,λe=>hG.step (by omega) hx (by rw[zd,if_neg (of_decide_eq_false e)])⟩
def Uo(b:Tbl)(plane:Int)(set_:Int)(hc:dN b=0)(hp:0≤plane):PC Tryz.prog:=⟨152,[(.a [.k,.k,.k,(.s 2)]),.k,.k],[.agg [.int b.router,.int b.sub,.int b.len,.sl 2 (b.rows.map Rw.v) false],.int plane,.int set_],zb (zc b plane set_),ao.of_ok λok=>(Un b plane set_ hc hp ok).elim λI0 h=>h.elim λm0 h=>h.elim λI1 h=>aj (sh:=.k) (enc:=zb) (a:=(za b plane set_ I0 m0 I1).an) h (by kernel_rfl) (AV.pureB_ok rfl),ah (by kernel_rfl)⟩
def uH(A:Int→Nat→Bool)(m:List (Int×Int)):Prop:=(au m).Nodup∧∀n,∃x:Nat,ay m n 0=x∧x<18446744073709551616∧∀i,x.testBit i=A n i
def qX(b:Tbl)(p st:Int)(r:Rw)(n:Int)(i:Nat):Bool:=decide (((cw r.id b.len).1=st∧dZ r.nx p≠0)∧(cw r.id b.len).2.1=(i:Int)∧dZ r.nx p=n)
theorem GF{m:List (Int×Int)}(hn:(au m).Nodup){x v y z:Int}:ay (bJ m x v) y z=if y=x then v else ay m y z:=by
 by_cases e:y=x
 ·rw[if_pos e,e]
  exact eQ (fe hn) ((cZ hn).mpr (.inl rfl))
 ·rw[if_neg e]
  cases hy:bn m y with
  | true=>exact eQ (fe hn) ((cZ hn).mpr (.inr ⟨cY (z:=z) hy,e⟩))
  | false=>rw[kT hy,kT];rw[GQ hn,hy,decide_eq_false e];rfl
theorem uH.step{b:Tbl}{p st:Int}{A:Int→Nat→Bool}{m:List (Int×Int)}(h:uH A m)(r:Rw):uH (λn i=>A n i || qX b p st r n i) (zd b p st m r):=by
 unfold zd
 by_cases c:(cw r.id b.len).1=st∧dZ r.nx p≠0
 ·rw[if_pos c]
  refine⟨fe h.1,λn=>?_⟩
  rw[GF h.1]
  by_cases e:n=dZ r.nx p
  ·rw[if_pos e]
   obtain⟨x,hx,h1,h2⟩:=h.2 (dZ r.nx p)
   have hr:=AQ (id:=r.id) (len:=b.len)
   obtain⟨k,hk⟩:∃k:Nat,(cw r.id b.len).2.1=k:=⟨(cw r.id b.len).2.1.toNat,by omega⟩
   have hk64:k<64:=by omega
   rw[hx,hk,lw hk64,li h1 (lC hk64)]
   refine⟨_,rfl,Nat.or_lt_two_pow (n:=64) h1 (lC hk64),λi=>?_⟩
   rw[Nat.testBit_or,h2,Nat.testBit_two_pow,e]
   congr 1
   unfold qX
   rw[hk]
   exact decide_eq_decide.mpr ⟨λq=>⟨c,by omega,rfl⟩,λq=>by have:=q.2.1;omega⟩
  ·rw[if_neg e]
   obtain⟨x,hx,h1,h2⟩:=h.2 n
   refine⟨x,hx,h1,λi=>?_⟩
   have:qX b p st r n i=false:=decide_eq_false λq=>e q.2.2.symm
   rw[h2];simp only[this,Bool.or_false]
 ·rw[if_neg c]
  refine⟨h.1,λn=>?_⟩
  obtain⟨x,hx,h1,h2⟩:=h.2 n
  refine⟨x,hx,h1,λi=>?_⟩
  have:qX b p st r n i=false:=decide_eq_false λq=>c q.1
  rw[h2];simp only[this,Bool.or_false]
theorem uH.fold{b:Tbl}{p st:Int}:∀{l:List Rw} {A:Int→Nat→Bool} {m:List (Int×Int)},uH A m→uH (λn i=>A n i || l.any λr=>qX b p st r n i) (l.foldl (zd b p st) m)
 | [],A,m,h=>by
  have:(λn i=>A n i || ([]:List Rw).any λr=>qX b p st r n i)=A:=by funext n i;simp
  rw[this];exact h
 | r::l,A,m,h=>by
  have:=uH.fold (b:=b) (p:=p) (st:=st) (l:=l) (h.step (b:=b) (p:=p) (st:=st) r)
  rw[List.foldl_cons]
  have e:(λn i=>A n i || (r::l).any λr=>qX b p st r n i)=λn i=>(A n i || qX b p st r n i) || l.any λr=>qX b p st r n i:=by
   funext n i;rw[List.any_cons,Bool.or_assoc]
  rw[e];exact this
theorem Fn{b:Tbl}(hc:dN b=0){r:Rw}(hr:r∈b.rows):dv b r.id=(r,true):=by
 have hp:=(fi hc).2.2.2.2.2
 have key:∀{l:List Rw},l.Pairwise (λx y=>x.id<y.id)→r∈l→(l.find? λq=>q.id==r.id)=some r:=λ{l}=>by
  induction l with
  | nil=>intro _ h;cases h
  | cons y l ih =>
   intro hp h
   rw[List.pairwise_cons]at hp
   rcases List.mem_cons.mp h with rfl|h
   ·rw[List.find?_cons_of_pos (by simp)]
   ·have:=hp.1 r h
    rw[List.find?_cons_of_neg (by simp;omega)]
    exact ih hp.2 h
 unfold dv;rw[key hp hr]
theorem JJ{st len:Int}{i:Nat}(hl:aJ len=true)(hi:(i:Int)<len)(hs:0≤st):(st * len+i+1-1).tdiv len=st∧(st * len+i+1-1).tmod len=i:=by
 have hv:=bL.mp hl
 have e:st * len+i+1-1=i+st * len:=by omega
 have h0:0≤st * len:=Int.mul_nonneg hs (by omega)
 rw[e,Int.tdiv_eq_ediv_of_nonneg (by omega),Int.tmod_eq_emod_of_nonneg (by omega),Int.add_mul_ediv_right _ _ (by omega),Int.add_mul_emod_self_right,Int.ediv_eq_zero_of_lt (by omega) hi,Int.emod_eq_of_lt (by omega) hi]
 omega
theorem NX{b:Tbl}(hc:dN b=0){p st n:Int}(hn:1≤n):ay (zc b p st) n 0=lO b p st n:=by
 have h0:uH (λ_ _=>false) []:=⟨List.nodup_nil,λn=>⟨0,rfl,by omega,λi=>by simp⟩⟩
 obtain⟨x,hx,h1,h2⟩:=(h0.fold (b:=b) (p:=p) (st:=st) (l:=b.rows)).2 n
 unfold zc lO
 rw[hx]
 congr 1
 refine ju λi=>?_
 rw[h2,jq]
 simp only[Bool.false_or]
 rw[Bool.eq_iff_iff,List.any_eq_true]
 obtain⟨_,_,_,hlen,hrow,_⟩:=fi hc
 constructor
 ·rintro⟨r,hr,q⟩
  obtain⟨⟨q1,q2⟩,q3,q4⟩:=of_decide_eq_true q
  have hv:aJ b.len=true:=by
   rcases hlen with h|h
   ·exact h
   ·rw[h.2]at hr;cases hr
  have hl:=bL.mp hv
  have hid:=(hrow r hr).1
  unfold cw at q1 q3
  rw[if_pos ⟨hv,hid⟩]at q1 q3
  simp only at q1 q3
  have hlt:=Int.tmod_lt_of_pos (r.id-1) (show 0<b.len by omega)
  have hs:0≤(r.id-1).tdiv b.len:=Int.tdiv_nonneg (by omega) (by omega)
  have hd:=Int.mul_tdiv_add_tmod (r.id-1) b.len
  have e:st * b.len+i+1=r.id:=by rw[←q1,←q3,Int.mul_comm];omega
  have hst:st≤31:=by
   rw[←q1]
   have:(r.id-1).tdiv b.len * 8≤(r.id-1).tdiv b.len * b.len:=Int.mul_le_mul_of_nonneg_left (by omega) hs
   rw[q1]at this ⊢;omega
  have ha:atT st i b.len=(r.id,true):=by
   unfold atT
   rw[if_pos ⟨⟨hv,by omega,by omega,hst⟩,by omega⟩,e]
  rw[Bool.and_eq_true,decide_eq_true_iff]
  refine⟨by omega,?_⟩
  unfold lP
  rw[ha,decide_eq_true (by omega:(i:Int)<b.len)]
  simp only[Bool.true_and,decide_eq_true_eq]
  unfold j2;rw[Fn hc hr,q4]
 ·rw[Bool.and_eq_true]
  rintro⟨_,q⟩
  unfold lP at q
  rw[Bool.and_eq_true,Bool.and_eq_true,decide_eq_true_iff,decide_eq_true_iff]at q
  obtain⟨⟨q1,q2⟩,q3⟩:=q
  unfold atT at q2 q3
  split at q2
  ·rename_i g
   rw[if_pos g]at q3
   simp only at q3
   obtain⟨⟨hv,hb,hs⟩,hle⟩:=g
   have hv2:=bL.mp hv
   have hpl:=JJ hv q1 hs.1
   have h0:0≤st * b.len:=Int.mul_nonneg hs.1 (by omega)
   unfold j2 dv at q3
   split at q3
   ·rename_i r hr
    have hid:r.id=st * b.len+i+1:=by simpa using List.find?_some hr
    refine⟨r,List.mem_of_find?_eq_some hr,decide_eq_true ?_⟩
    unfold cw
    rw[hid,if_pos ⟨hv,by omega,by omega⟩]
    exact⟨⟨hpl.1,by rw[q3];omega⟩,hpl.2,q3⟩
   ·simp[dZ]at q3;omega
  ·cases q2
def wT(b:Tbl)(pl st n:Int):Int:=if mvl b pl st=true then ay (zc b pl st) n 0 else 0
def Sn(b:Tbl)(plane:Int)(set_:Int)(neighbour:Int):=okL [.agg [.int b.router,.int b.sub,.int b.len,.sl 2 (b.rows.map Rw.v) false],.int plane,.int set_,.int neighbour]
def wS(r:Int):AV:=.val (.int .u64 r)
def wR(b:Tbl)(plane:Int)(set_:Int)(neighbour:Int):Ax Tryz.prog noS (Int):=
 (.callP (P3 b plane set_)
(.br 112 (!(mvl b plane set_)) (.ret (0))
(.req 160 (dN b=0) λh1 =>
(.req 160 (0≤plane) λh2 =>
(.callP (Uo b plane set_ h1 h2)
(.mn 192 (fF (λx=>AV.val (.int .u64 x)) (zc b plane set_) neighbour 0) (.ret (ay (zc b plane set_) neighbour 0))))))))
def B1(b:Tbl)(plane:Int)(set_:Int)(neighbour:Int)(r0:Int):=(wR b plane set_ neighbour).vp wS r0
theorem Sl(b:Tbl)(pl st n:Int)(ok:Sn b pl st n):B1 b pl st n (wT b pl st n):=by
 dsimp only[B1,wR,noS,Ax.vp,Ax.vc];simp only[vcU,rfU,List.length_map]
 unfold wT
 refine⟨λe=>by rw[if_neg (by simpa using e)],λe=>?_⟩
 have e:mvl b pl st=true:=by simpa using e
 have h:=pI.mp e
 rw[if_pos e]
 exact⟨h.1,h.2.1.1,rfl⟩
def Sm(b:Tbl)(plane:Int)(set_:Int)(neighbour:Int):PC Tryz.prog:=⟨92,[(.a [.k,.k,.k,(.s 2)]),.k,.k,.k],[.agg [.int b.router,.int b.sub,.int b.len,.sl 2 (b.rows.map Rw.v) false],.int plane,.int set_,.int neighbour],wS (wT b plane set_ neighbour),ao.of_ok λok=>aj (sh:=.k) (enc:=wS) (a:=(wR b plane set_ neighbour).an) (Sl b plane set_ neighbour ok) (by kernel_rfl) (AV.pureB_ok rfl),ah (by kernel_rfl)⟩
def c7(p:Pkt):Int:=if cN p=true then p.ent.tmod 8 else 0
def Rj(p:Pkt):=okL [.agg [.int p.mode,.int p.sub,.int p.set,.int p.len,.int p.ttl,.int p.ent,.int p.ing,.int p.proto,.val (.int .u64 p.bits),.str p.pay]]
def vW(r:Int):AV:=.int r
def vV(p:Pkt):Ax Tryz.prog noS (Int):=
 (.callP (oq p)
(.br 80 (!(cN p)) (.ret (0))
(.ret (p.ent.tmod 8))))
def AP(p:Pkt)(r0:Int):=(vV p).vp vW r0
theorem Rh(p:Pkt)(ok:Rj p):AP p (c7 p):=by
 dsimp only[AP,vV,noS,Ax.vp,Ax.vc];simp only[vcU,rfU,List.length_map]
 refine⟨λe=>?_,λe=>?_⟩
 ·rw[c7,if_neg (by simpa using e)]
 ·rw[c7,if_pos (by simpa using e)]
def Ri(p:Pkt):PC Tryz.prog:=⟨89,[.k],[.agg [.int p.mode,.int p.sub,.int p.set,.int p.len,.int p.ttl,.int p.ent,.int p.ing,.int p.proto,.val (.int .u64 p.bits),.str p.pay]],vW (c7 p),ao.of_ok λok=>aj (sh:=.k) (enc:=vW) (a:=(vV p).an) (Rh p ok) (by kernel_rfl) (AV.pureB_ok rfl),ah (by kernel_rfl)⟩
def Rg(p:Pkt):=okL [.agg [.int p.mode,.int p.sub,.int p.set,.int p.len,.int p.ttl,.int p.ent,.int p.ing,.int p.proto,.val (.int .u64 p.bits),.str p.pay]]
def vU(r:Int):AV:=.int r
def vT(p:Pkt):Ax Tryz.prog noS (Int):=
 (.callP (uS p)
(.br 80 (!(cN p)) (.ret (0))
(.ret (p.ent.tmod 8))))
def AN(p:Pkt)(r0:Int):=(vT p).vp vU r0
theorem Re(p:Pkt)(ok:Rg p):AN p (c7 p):=by
 dsimp only[AN,vT,noS,Ax.vp,Ax.vc];simp only[vcU,rfU,List.length_map]
 refine⟨λe=>?_,λe=>?_⟩
 ·rw[c7,if_neg (by simpa using e)]
 ·rw[c7,if_pos (by simpa using e)]
def FR(p:Pkt):PC Tryz.prog:=⟨161,[.k],[.agg [.int p.mode,.int p.sub,.int p.set,.int p.len,.int p.ttl,.int p.ent,.int p.ing,.int p.proto,.val (.int .u64 p.bits),.str p.pay]],vU (c7 p),ao.of_ok λok=>aj (sh:=.k) (enc:=vU) (a:=(vT p).an) (Re p ok) (by kernel_rfl) (AV.pureB_ok rfl),ah (by kernel_rfl)⟩
def zPk:Pkt:=⟨0,0,0,0,0,0,0,0,0,B []⟩
def Ss(p:Pkt)(m:Int):Pkt:=⟨p.mode,p.sub,p.set,p.len,W (p.ttl-1),p.ent,p.ing,p.proto,dF .u64 p.bits m,p.pay⟩
def am(p:Pkt)(m:Int):Pkt×Bool:=if(!cN p || (p.ttl==0 || dF .u64 p.bits m==0))=true then(zPk,false)else(Ss p m,true)
def Mm(p:Pkt)(m:Int):=okL [.agg [.int p.mode,.int p.sub,.int p.set,.int p.len,.int p.ttl,.int p.ent,.int p.ing,.int p.proto,.val (.int .u64 p.bits),.str p.pay],.val (.int .u64 m)]
def GH(p:Pkt)(m:Int)(t0:Bool):NF:=⟨[(1,.k,.val (.int .u64 m)),(2,.k,.ref 0 0),(4,.k,.ref 1 0),(20,.k,.bool t0)],[.box (.agg [.int p.mode,.int p.sub,.int p.set,.int p.len,.int p.ttl,.int p.ent,.int p.ing,.int p.proto,.val (.int .u64 p.bits),.str p.pay]),.box (.agg [.int 0,.int 0,.int 0,.int 0,.int 0,.int 0,.int 0,.int 0,.val (.int .u64 0),.str (B [])])]⟩
@[reducible] def Bz:Nat→Type
 | 0=>Bool
 | _=>Unit
def pK(r:Pkt×Bool):AV:=.tup [Pkt.v r.1,.bool r.2]
def pJ(p:Pkt)(m:Int)(I0:Bool→Prop):Ax Tryz.prog Bz (Pkt×Bool):=
 (.pass (.pass (.join 0 (GH p m) (λ(t0:Bool)=>I0 t0) (λb0=>(.callP (oq p)
(.br 112 (!(cN p)) (.bk 0 b0 ((true):Bool) [0,16])
(.br 192 (p.ttl==0) (.bk 0 b0 ((true):Bool) [0,16])
(.bk 0 b0 (((dF .u64 p.bits m)==0):Bool) [0,16]))))) λ(t0:Bool) =>
(.br 2 t0 (.ret ((⟨0,0,0,0,0,0,0,0,0,B []⟩:Pkt),false))
(.ret ((⟨p.mode,p.sub,p.set,p.len,W (p.ttl-1),p.ent,p.ing,p.proto,dF .u64 p.bits m,p.pay⟩:Pkt),true))))))
def sN(p:Pkt)(m:Int)(I0:Bool→Prop)(r0:Pkt×Bool):=(pJ p m I0).vp pK r0
theorem Mk(p:Pkt)(m:Int)(ok:Mm p m):∃I,sN p m I (am p m):=by
 refine⟨λt=>t=(!cN p || (p.ttl==0 || dF .u64 p.bits m==0)),?_⟩
 dsimp only[sN,pJ,Bz,Ax.vp,Ax.vc];simp only[vcU,rfU,List.length_map]
 refine⟨⟨λa=>by rw[a];rfl,λa=>⟨λc=>by rw[c,Bool.true_or,Bool.or_true],λc=>by rw[a,c];rfl⟩⟩,?_⟩
 rintro _ rfl
 unfold am
 exact⟨λe=>by rw[if_pos e];rfl,λe=>by rw[if_neg (by rw[e];simp)];rfl⟩
def Ml(p:Pkt)(m:Int):PC Tryz.prog:=⟨93,[.k,.k],[.agg [.int p.mode,.int p.sub,.int p.set,.int p.len,.int p.ttl,.int p.ent,.int p.ing,.int p.proto,.val (.int .u64 p.bits),.str p.pay],.val (.int .u64 m)],pK (am p m),ao.of_ok λok=>(Mk p m ok).elim λI0 h=>aj (sh:=.k) (enc:=pK) (a:=(pJ p m I0).an) h (by kernel_rfl) (AV.pureB_ok rfl),ah (by kernel_rfl)⟩
def Mp(p:Pkt)(m:Int):=okL [.agg [.int p.mode,.int p.sub,.int p.set,.int p.len,.int p.ttl,.int p.ent,.int p.ing,.int p.proto,.val (.int .u64 p.bits),.str p.pay],.val (.int .u64 m)]
def GJ(p:Pkt)(m:Int)(t0:Bool):NF:=⟨[(1,.k,.val (.int .u64 m)),(2,.k,.ref 0 0),(4,.k,.ref 1 0),(20,.k,.bool t0)],[.box (.agg [.int p.mode,.int p.sub,.int p.set,.int p.len,.int p.ttl,.int p.ent,.int p.ing,.int p.proto,.val (.int .u64 p.bits),.str p.pay]),.box (.agg [.int 0,.int 0,.int 0,.int 0,.int 0,.int 0,.int 0,.int 0,.val (.int .u64 0),.str (B [])])]⟩
@[reducible] def B0:Nat→Type
 | 0=>Bool
 | _=>Unit
def pM(r:Pkt×Bool):AV:=.tup [Pkt.v r.1,.bool r.2]
def pL(p:Pkt)(m:Int)(I0:Bool→Prop):Ax Tryz.prog B0 (Pkt×Bool):=
 (.pass (.pass (.join 0 (GJ p m) (λ(t0:Bool)=>I0 t0) (λb0=>(.callP (uS p)
(.br 112 (!(cN p)) (.bk 0 b0 ((true):Bool) [0,16])
(.br 192 (p.ttl==0) (.bk 0 b0 ((true):Bool) [0,16])
(.bk 0 b0 (((dF .u64 p.bits m)==0):Bool) [0,16]))))) λ(t0:Bool) =>
(.br 2 t0 (.ret ((⟨0,0,0,0,0,0,0,0,0,B []⟩:Pkt),false))
(.ret ((⟨p.mode,p.sub,p.set,p.len,W (p.ttl-1),p.ent,p.ing,p.proto,dF .u64 p.bits m,p.pay⟩:Pkt),true))))))
def sO(p:Pkt)(m:Int)(I0:Bool→Prop)(r0:Pkt×Bool):=(pL p m I0).vp pM r0
theorem Mn(p:Pkt)(m:Int)(ok:Mp p m):∃I,sO p m I (am p m):=by
 refine⟨λt=>t=(!cN p || (p.ttl==0 || dF .u64 p.bits m==0)),?_⟩
 dsimp only[sO,pL,B0,Ax.vp,Ax.vc];simp only[vcU,rfU,List.length_map]
 refine⟨⟨λa=>by rw[a];rfl,λa=>⟨λc=>by rw[c,Bool.true_or,Bool.or_true],λc=>by rw[a,c];rfl⟩⟩,?_⟩
 rintro _ rfl
 unfold am
 exact⟨λe=>by rw[if_pos e];rfl,λe=>by rw[if_neg (by rw[e];simp)];rfl⟩
def Mo(p:Pkt)(m:Int):PC Tryz.prog:=⟨163,[.k,.k],[.agg [.int p.mode,.int p.sub,.int p.set,.int p.len,.int p.ttl,.int p.ent,.int p.ing,.int p.proto,.val (.int .u64 p.bits),.str p.pay],.val (.int .u64 m)],pM (am p m),ao.of_ok λok=>(Mn p m ok).elim λI0 h=>aj (sh:=.k) (enc:=pM) (a:=(pL p m I0).an) h (by kernel_rfl) (AV.pureB_ok rfl),ah (by kernel_rfl)⟩
def pz(p:Pkt)(k:Int):Bool:=!cN p || (decide (k<0) || (decide (63<k) || dF .u64 (mW .u64 p.bits k) 1==0))
def cW(p:Pkt)(k:Int):Pkt:=if pz p k=true then zPk else⟨p.mode,p.sub,p.set,p.len,p.ttl,p.ent,p.ing,p.proto,gX .u64 1 k,p.pay⟩
def RI(p:Pkt)(bit:Int):=okL [.agg [.int p.mode,.int p.sub,.int p.set,.int p.len,.int p.ttl,.int p.ent,.int p.ing,.int p.proto,.val (.int .u64 p.bits),.str p.pay],.int bit]
def LV(p:Pkt)(bit:Int)(t0:Bool):NF:=⟨[(1,.k,.int bit),(2,.k,.ref 0 0),(4,.k,.ref 1 0),(23,.k,.bool t0)],[.box (.agg [.int p.mode,.int p.sub,.int p.set,.int p.len,.int p.ttl,.int p.ent,.int p.ing,.int p.proto,.val (.int .u64 p.bits),.str p.pay]),.box (.agg [.int 0,.int 0,.int 0,.int 0,.int 0,.int 0,.int 0,.int 0,.val (.int .u64 0),.str (B [])])]⟩
@[reducible] def Gt:Nat→Type
 | 0=>Bool
 | _=>Unit
def wA(r:Pkt):AV:=Pkt.v r
def w9(p:Pkt)(bit:Int)(I0:Bool→Prop):Ax Tryz.prog Gt (Pkt):=
 (.pass (.pass (.join 0 (LV p bit) (λ(t0:Bool)=>I0 t0) (λb0=>(.callP (oq p)
(.br 96 (!(cN p)) (.bk 0 b0 ((true):Bool) [0,16])
(.br 160 (decide (bit<0)) (.bk 0 b0 ((true):Bool) [0,16])
(.br 224 (decide (63<bit)) (.bk 0 b0 ((true):Bool) [0,16])
(.say (ck (decide (0≤bit))) (.bk 0 b0 (((dF .u64 (mW .u64 p.bits bit) 1)==0):Bool) [0,16]))))))) λ(t0:Bool) =>
(.br 2 t0 (.ret ((⟨0,0,0,0,0,0,0,0,0,B []⟩:Pkt)))
(.say (ck (decide (0≤bit))) (.ret ((⟨p.mode,p.sub,p.set,p.len,p.ttl,p.ent,p.ing,p.proto,gX .u64 1 bit,p.pay⟩:Pkt))))))))
def Bn(p:Pkt)(bit:Int)(I0:Bool→Prop)(r0:Pkt):=(w9 p bit I0).vp wA r0
theorem RG(p:Pkt)(k:Int)(ok:RI p k):∃I,Bn p k I (cW p k):=by
 refine⟨λt=>t=pz p k,?_⟩
 dsimp only[Bn,w9,Gt,Ax.vp,Ax.vc];simp only[vcU,rfU,List.length_map]
 refine⟨⟨λa=>?_,λa=>⟨λc=>?_,λc=>⟨λd=>?_,λd=>⟨by omega,?_⟩⟩⟩⟩,?_⟩
 ·rw[pz,a];rfl
 ·rw[pz,decide_eq_true c];simp
 ·rw[pz,decide_eq_true d];simp
 ·rw[pz,a,decide_eq_false c,decide_eq_false d];rfl
 rintro _ rfl
 unfold cW
 refine⟨λe=>by rw[if_pos e];rfl,λe=>⟨?_,by rw[if_neg (by rw[e];simp)]⟩⟩
 refine Classical.byContradiction λq=>?_
 rw[pz,decide_eq_true (show k<0 by omega)]at e;simp at e
def RH(p:Pkt)(bit:Int):PC Tryz.prog:=⟨48,[.k,.k],[.agg [.int p.mode,.int p.sub,.int p.set,.int p.len,.int p.ttl,.int p.ent,.int p.ing,.int p.proto,.val (.int .u64 p.bits),.str p.pay],.int bit],wA (cW p bit),ao.of_ok λok=>(RG p bit ok).elim λI0 h=>aj (sh:=.k) (enc:=wA) (a:=(w9 p bit I0).an) h (by kernel_rfl) (AV.pureB_ok rfl),ah (by kernel_rfl)⟩
def DI(b k:Int):Bool:=(decide (0≤k) && decide (k<64)) && (dF .u64 (mW .u64 b (IntKind.u64.wrap k)) 1==1)
def SW(b:Int)(k:Int):=okL [.val (.int .u64 b),.int k]
def xL(r:Bool):AV:=.bool r
def xK(b:Int)(k:Int):Ax Tryz.prog noS (Bool):=
 (.br 64 (decide (0≤k)) (.br 128 (decide (k<64)) (.say (ck (decide (0≤(IntKind.u64.wrap k)))) (.ret ((dF .u64 (mW .u64 b (IntKind.u64.wrap k)) 1)==1)))
(.ret (false)))
(.ret (false)))
def BW(b:Int)(k:Int)(r0:Bool):=(xK b k).vp xL r0
theorem SU(b k:Int)(ok:SW b k):BW b k (DI b k):=by
 dsimp only[BW,xK,noS,Ax.vp,Ax.vc];simp only[vcU,rfU,List.length_map]
 unfold DI
 refine⟨λa=>⟨λc=>⟨?_,by rw[decide_eq_true a,decide_eq_true c];rfl⟩,λc=>by rw[decide_eq_false c];simp⟩,λa=>by rw[decide_eq_false a];rfl⟩
 obtain⟨n,rfl⟩:∃n:Nat,k=n:=⟨k.toNat,by omega⟩
 rw[dO (by omega)];omega
def SV(b:Int)(k:Int):PC Tryz.prog:=⟨164,[.k,.k],[.val (.int .u64 b),.int k],xL (DI b k),ao.of_ok λok=>aj (sh:=.k) (enc:=xL) (a:=(xK b k).an) (SU b k ok) (by kernel_rfl) (AV.pureB_ok rfl),ah (by kernel_rfl)⟩
theorem HM{b k:Nat}(hb:b<18446744073709551616)(hk:k<64):DI (b:Int) (k:Int)=b.testBit k:=by
 unfold DI
 rw[dO (by omega),JD hb hk,decide_eq_true (by omega),decide_eq_true (by omega)];rfl
def GV(b:Int):=okL [.val (.int .u64 b)]
def My(b:Int)(t0:Int×List Int):NF:=⟨[(0,.k,.val (.int .u64 b)),(3,.k,.vec 0),(4,.k,.int t0.1)],[.vec 1 (t0.2.map AV.int) (ab (λ_=>rfl) t0.2)]⟩
@[reducible] def GT:Nat→Type
 | 0=>Int×List Int
 | _=>Unit
def wZ(r:List Int):AV:=.sl 1 (r.map AV.int) false
def wY(b:Int)(I0:(Int×List Int)→Prop)(m0:(Int×List Int)→Nat):Ax Tryz.prog GT ((List Int)):=
 (.cmdL (.nilT 3 1) (.loop 0 (My b) I0 m0 (0,[]) [48] λ(t0:Int×List Int) b0 =>
(.br 33 (decide (t0.1<64)) (.callP (SV b t0.1)
(.br 81 (DI b t0.1) (.say (λR=>Rf (α:=List AV) (t0.2.map AV.int) (Rf (α:=List AV) [.int t0.1]
(ck (decide (t0.2.length+1≤1048576))
R))) (.app 129 AV.int t0.2 [t0.1]
(.bk 0 b0 (W (t0.1+1),t0.2++[t0.1]) [129])))
(.bk 0 b0 (W (t0.1+1),t0.2) [0])))
(.say (Rf (t0.2.map AV.int)) (.cmdL (.frzE 0 (t0.2.map AV.int) (ab (λ_=>rfl) t0.2)) (.ret (t0.2)))))))
def B6(b:Int)(I0:(Int×List Int)→Prop)(m0:(Int×List Int)→Nat)(r0:List Int):=(wY b I0 m0).vp wZ r0
theorem Sy(b:Int)(ok:GV b):∃I m,B6 b I m (bG b):=by
 have hb:0≤b∧b<18446744073709551616:=by
  simp only[GV,okL,AV.ok,az,and_true]at ok
  replace ok:IntKind.u64.min≤b∧b≤IntKind.u64.max:=ok
  simp[IntKind.min,IntKind.max,IntKind.bits,IntKind.signed]at ok
  omega
 refine⟨λt=>∃k:Nat,t.1=k∧k≤64∧t.2=((List.range k).filter b.toNat.testBit).map λ(k:Nat)=>(k:Int),λt=>64-t.1.toNat,?_⟩
 dsimp only[B6,wY,GT,Ax.vp,Ax.vc];simp only[vcU,rfU,List.length_map]
 obtain⟨x,rfl,hx⟩:=Qp hb
 simp only[Int.toNat_natCast]
 refine⟨⟨0,rfl,by omega,rfl⟩,?_⟩
 rintro⟨_,out⟩ ⟨k,rfl,hk,ho⟩
 simp only at ho ⊢
 have hl:out.length≤k:=by
  rw[ho,List.length_map]
  exact Nat.le_trans (List.length_filter_le _ _) (by simp)
 refine⟨λc=>?_,λc=>?_⟩
 ·rw[HM hx (by omega),aU (n:=64) (by omega) (by omega)]
  refine⟨λe=>⟨by omega,⟨k+1,rfl,by omega,?_⟩,by omega⟩,λe=>⟨⟨k+1,rfl,by omega,?_⟩,by omega⟩⟩
  ·rw[ho,List.range_succ,List.filter_append];simp[e]
  ·rw[ho,List.range_succ,List.filter_append];simp[e]
 ·have:k=64:=by omega
  subst this
  rw[ho,fZ]
def GU(b:Int):PC Tryz.prog:=⟨114,[.k],[.val (.int .u64 b)],wZ (bG b),ao.of_ok λok=>(Sy b ok).elim λI0 h=>h.elim λm0 h=>aj (sh:=(.s 1)) (enc:=wZ) (a:=(wY b I0 m0).an) h (by kernel_rfl) (AV.pureB_ok rfl),ah (by kernel_rfl)⟩
def wK(b n:Int):Int:=if n<0∨((bG b).length:Int)≤n then -1 else(bG b).getD n.toNat 0
def RY(b:Int)(n:Int):=okL [.val (.int .u64 b),.int n]
def Md(b:Int)(n:Int)(t0:Bool):NF:=⟨[(1,.k,.int n),(5,.k,.sl 1 ((bG b).map AV.int) false),(15,.k,.bool t0)],[]⟩
@[reducible] def G3:Nat→Type
 | 0=>Bool
 | _=>Unit
def wJ(r:Int):AV:=.int r
def wI(b:Int)(n:Int)(I0:Bool→Prop):Ax Tryz.prog G3 (Int):=
 (.callP (GU b)
(.pass (.join 0 (Md b n) (λ(t0:Bool)=>I0 t0) (λb0=>(.br 112 (decide (n<0)) (.bk 0 b0 ((true):Bool) [])
(.bk 0 b0 ((decide ((((bG b).map AV.int).length:Int)≤n)):Bool) []))) λ(t0:Bool) =>
(.br 0 t0 (.ret (-1))
(.el 32 AV.int (bG b) (λR=>Rf ((bG b).map AV.int) (ck (decide (0≤n)) (ck (decide (n<((bG b).length:Int)))
(∀x1,(bG b)[n.toNat]?=some x1 →
(R x1))))) λx1 =>
(.ret (x1)))))))
def Bu(b:Int)(n:Int)(I0:Bool→Prop)(r0:Int):=(wI b n I0).vp wJ r0
theorem RW(b n:Int)(ok:RY b n):∃I,Bu b n I (wK b n):=by
 refine⟨λt=>t=decide (n<0∨((bG b).length:Int)≤n),?_⟩
 dsimp only[Bu,wI,G3,Ax.vp,Ax.vc];simp only[vcU,rfU,List.length_map]
 refine⟨⟨λa=>by simp[a],λa=>by simp[a]⟩,?_⟩
 rintro _ rfl
 unfold wK
 refine⟨λe=>by rw[if_pos (of_decide_eq_true e)],λe=>?_⟩
 have e:=of_decide_eq_false e
 rw[if_neg e]
 exact⟨by omega,by omega,λx hx=>by rw[List.getD_eq_getElem?_getD,hx];rfl⟩
def RX(b:Int)(n:Int):PC Tryz.prog:=⟨186,[.k,.k],[.val (.int .u64 b),.int n],wJ (wK b n),ao.of_ok λok=>(RW b n ok).elim λI0 h=>aj (sh:=.k) (enc:=wJ) (a:=(wI b n I0).an) h (by kernel_rfl) (AV.pureB_ok rfl),ah (by kernel_rfl)⟩
def Ic(b:Int):=okL [.val (.int .u64 b)]
def yc(r:Int):AV:=.int r
def yb(b:Int):Ax Tryz.prog noS (Int):=
 (.callP (RX b 0)
(.ret (wK b 0)))
def Ck(b:Int)(r0:Int):=(yb b).vp yc r0
theorem RZ{b:Int}(hb:0≤b∧b<18446744073709551616):wK b 0=bS b:=by
 obtain⟨x,rfl,hx⟩:=Qp hb
 by_cases h:x=0
 ·subst h
  have e0:bG ((0:Nat):Int)=[]:=by unfold bG;simp
  unfold wK bS
  rw[e0,if_pos (by simp)];rfl
 ·have hl:=jv h hx
  unfold wK bS mV
  rw[fZ,hl,Int.toNat_natCast,if_neg (by simp),if_neg (by omega)];rfl
theorem Tv(b:Int)(ok:Ic b):Ck b (bS b):=by
 have hb:0≤b∧b<18446744073709551616:=by
  simp only[Ic,okL,AV.ok,az,and_true]at ok
  replace ok:IntKind.u64.min≤b∧b≤IntKind.u64.max:=ok
  simp[IntKind.min,IntKind.max,IntKind.bits,IntKind.signed]at ok
  omega
 dsimp only[Ck,yb,noS,Ax.vp,Ax.vc];simp only[vcU,rfU,List.length_map]
 exact RZ hb
def Tw(b:Int):PC Tryz.prog:=⟨159,[.k],[.val (.int .u64 b)],yc (bS b),ao.of_ok λok=>aj (sh:=.k) (enc:=yc) (a:=(yb b).an) (Tv b ok) (by kernel_rfl) (AV.pureB_ok rfl),ah (by kernel_rfl)⟩
def okF(b:Tbl)(p:Pkt):Prop:=dN b=0∧cN p=true∧b.len=p.len
def IW(h:Int)(q:Pkt):Cpy:=⟨h,[],q.mode,q.sub,q.set,q.len,q.ttl,q.ent,q.ing,q.proto,q.bits,q.pay⟩
abbrev FwS:=Int×Int×Int×List Cpy
def fwH(b:Tbl)(p:Pkt)(x:Int):Int:=j2 b (atT p.set (bS x) p.len).1 (c7 p)
def fwM(b:Tbl)(p:Pkt)(x:Int):Int:=dF .u64 x (lO b (c7 p) p.set (fwH b p x))
def fwS(b:Tbl)(p:Pkt)(s:FwS):FwS:=
 if fwH b p s.1=0 then(co .u64 s.1 (bB (bS s.1)),bOr .u64 s.2.1 (bB (bS s.1)),s.2.2.1,s.2.2.2)
 else if fwH b p s.1=b.router then(co .u64 s.1 (bB (bS s.1)),s.2.1,bOr .u64 s.2.2.1 (bB (bS s.1)),s.2.2.2)
 else if(am p (fwM b p s.1)).2=true then(co .u64 s.1 (fwM b p s.1),s.2.1,s.2.2.1,s.2.2.2++[IW (fwH b p s.1) (am p (fwM b p s.1)).1])
 else(co .u64 s.1 (fwM b p s.1),bOr .u64 s.2.1 (fwM b p s.1),s.2.2.1,s.2.2.2)
def fwL(b:Tbl)(p:Pkt):Nat→FwS→Out
 | 0,s=>⟨s.2.2.1,s.2.1,s.2.2.2⟩
 | n+1,s=>if s.1=0 then⟨s.2.2.1,s.2.1,s.2.2.2⟩else fwL b p n (fwS b p s)
def ya(b:Tbl)(p:Pkt):Out:=fwL b p 64 (p.bits,0,0,[])
section
variable {b : Tbl} {p : Pkt} {x lo lc : Int} {cp : List Cpy}
theorem PA(h:fwH b p x=0):fwS b p (x,lo,lc,cp)=(co .u64 x (bB (bS x)),bOr .u64 lo (bB (bS x)),lc,cp):=if_pos h
theorem P9(h:fwH b p x≠0)(h1:fwH b p x=b.router):fwS b p (x,lo,lc,cp)=(co .u64 x (bB (bS x)),lo,bOr .u64 lc (bB (bS x)),cp):=(if_neg h).trans (if_pos h1)
theorem P8(h:fwH b p x≠0)(h1:fwH b p x≠b.router)(h2:(am p (fwM b p x)).2=true):fwS b p (x,lo,lc,cp)=(co .u64 x (fwM b p x),lo,lc,cp++[IW (fwH b p x) (am p (fwM b p x)).1]):=(if_neg h).trans ((if_neg h1).trans (if_pos h2))
theorem P7(h:fwH b p x≠0)(h1:fwH b p x≠b.router)(h2:¬(am p (fwM b p x)).2=true):fwS b p (x,lo,lc,cp)=(co .u64 x (fwM b p x),bOr .u64 lo (fwM b p x),lc,cp):=(if_neg h).trans ((if_neg h1).trans (if_neg h2))
end
theorem tE{b:Tbl}{p:Pkt}{n:Nat}{s:FwS}(h:s.1=0):fwL b p n s=⟨s.2.2.1,s.2.1,s.2.2.2⟩:=by
 cases n with
 | zero=>rfl
 | succ n=>rw[fwL,if_pos h]
structure FwI (b:Tbl) (p:Pkt) (s:FwS):Prop where
  ex:∃x n:Nat,s.1=x∧x<18446744073709551616∧(∀i,x.testBit i=true→p.bits.toNat.testBit i=true)∧(bG x).length≤n∧s.2.2.2.length+n≤64∧fwL b p n s=ya b p
theorem qk{b:Tbl}(hc:dN b=0){id p:Int}(h:j2 b id p≠0):1≤j2 b id p∧(dv b id).2=true∧(dv b id).1∈b.rows∧(dv b id).1.id=id:=by
 have hr:=(fi hc).2.2.2.2.1
 unfold j2 at h ⊢
 unfold dv at h ⊢
 split at h
 ·rename_i r e
  have hm:=List.mem_of_find?_eq_some e
  refine⟨?_,rfl,hm,by simpa using List.find?_some e⟩
  unfold dZ at h ⊢
  split at h
  ·exact absurd rfl h
  ·rename_i hn
   simp only at hn h ⊢
   rw[if_neg hn]
   have hlt:(p.tmod r.nx.length).toNat<r.nx.length:=by
    have:=Int.tmod_lt_of_pos p (show(0:Int)<r.nx.length by omega)
    omega
   rw[List.getD_eq_getElem?_getD,List.getElem?_eq_getElem hlt]
   exact((hr r hm).2.2 _ (List.getElem_mem hlt)).1
 ·exact absurd (by simp[dZ]) h
theorem UK{x:Int}(h:IntKind.u64.min≤x∧x≤IntKind.u64.max):0≤x∧x<18446744073709551616:=by
 simp[IntKind.min,IntKind.max,IntKind.bits,IntKind.signed]at h
 omega
theorem sT{b:Tbl}{p:Pkt}(hF:okF b p){x k:Nat}(hk:bS (x:Int)=k)(h:fwH b p x≠0):∃o:Nat,lO b (c7 p) p.set (fwH b p x)=o∧o<18446744073709551616∧(k<64→o.testBit k=true):=by
 obtain⟨hc,hp,hl⟩:=hF
 refine⟨_,rfl,w6 _ 64,λh64=>?_⟩
 have h2:=qk hc (id:=(atT p.set (bS (x:Int)) p.len).1) (p:=c7 p) h
 rw[jq,decide_eq_true h64,Bool.true_and]
 unfold lP
 rw[hk]at h2
 have ha:(atT p.set k p.len).2=true:=by
  cases e:(atT p.set k p.len).2 with
  | true=>rfl
  | false =>
   have e2:(atT p.set (k:Int) p.len).1=0:=by
    unfold atT at e ⊢
    split at e
    ·cases e
    ·rename_i q;rw[if_neg q]
   have:=((fi hc).2.2.2.2.1 _ h2.2.2.1).1
   rw[h2.2.2.2,e2]at this;omega
 have hlt:(k:Int)<p.len:=by
  unfold atT at ha
  split at ha
  ·rename_i q;omega
  ·cases ha
 rw[hl,ha,decide_eq_true hlt]
 simp only[Bool.true_and,decide_eq_true_eq]
 unfold fwH;rw[hk]
theorem FwI.step{b:Tbl}{p:Pkt}(hF:okF b p){s:FwS}(h:FwI b p s)(h0:s.1≠0):FwI b p (fwS b p s)∧(bG (fwS b p s).1).length<(bG s.1).length:=by
 obtain⟨x,n,h1,h2,h3,h4,h5,h6⟩:=h.ex
 have hx0:x≠0:=by omega
 have hpos:=JG hx0 h2
 obtain⟨m,rfl⟩:∃m,n=m+1:=⟨n-1,by omega⟩
 rw[fwL,if_neg h0]at h6
 obtain⟨k,k1,k2,k3⟩:=Cn hx0 h2
 -- what is taken away has the bit
 have key:∀o:Nat,o<18446744073709551616→o.testBit k=true→∃z:Nat,co .u64 (x:Int) (o:Int)=z∧z<18446744073709551616∧(∀i,z.testBit i=true→x.testBit i=true)∧(bG z).length<(bG x).length:=λo o1 o2=>by
  obtain⟨z,z1,z2,z3⟩:=u9 h2 o1
  have hs:∀i,z.testBit i=true→x.testBit i=true:=λi hi=>by rw[z3]at hi;exact(Bool.and_eq_true _ _ ▸ hi).1
  exact⟨z,z1,z2,hs,OX k2 k3 (by rw[z3,o2];simp) hs⟩
 have fin:∀{s':FwS} {z:Nat},fwS b p s=s'→s'.1=z→z<18446744073709551616→(∀i,z.testBit i=true→x.testBit i=true)→(bG z).length<(bG x).length→s'.2.2.2.length≤s.2.2.2.length+1→FwI b p (fwS b p s)∧(bG (fwS b p s).1).length<(bG s.1).length:=λ{s' z} e e1 e2 e3 e4 e5=>by
  rw[e]at h6 ⊢
  rw[e1,h1]
  exact⟨⟨z,m,e1,e2,λi hi=>h3 i (e3 i hi),by omega,by omega,h6⟩,e4⟩
 by_cases c1:fwH b p s.1=0
 ·obtain⟨z,z1,z2,z3,z4⟩:=key (2 ^ k) (lC k2) (by rw[Nat.testBit_two_pow];simp)
  have e:fwS b p s=(co .u64 s.1 (bB (bS s.1)),bOr .u64 s.2.1 (bB (bS s.1)),s.2.2.1,s.2.2.2):=by rw[fwS,if_pos c1]
  exact fin e (by simp only;rw[h1,k1,jE k2,z1]) z2 z3 z4 (by simp)
 by_cases c2:fwH b p s.1=b.router
 ·obtain⟨z,z1,z2,z3,z4⟩:=key (2 ^ k) (lC k2) (by rw[Nat.testBit_two_pow];simp)
  have e:fwS b p s=(co .u64 s.1 (bB (bS s.1)),s.2.1,bOr .u64 s.2.2.1 (bB (bS s.1)),s.2.2.2):=by rw[fwS,if_neg c1,if_pos c2]
  exact fin e (by simp only;rw[h1,k1,jE k2,z1]) z2 z3 z4 (by simp)
 have c1':fwH b p (x:Int)≠0:=by rw[←h1];exact c1
 obtain⟨o,o1,o2,o3⟩:=sT hF k1 c1'
 have hm:fwM b p s.1=((x &&& o:Nat):Int):=by rw[fwM,h1,o1,ga h2 o2]
 obtain⟨z,z1,z2,z3,z4⟩:=key (x &&& o) (Nat.lt_of_le_of_lt Nat.and_le_left h2) (by rw[Nat.testBit_and,k3,o3 k2];rfl)
 by_cases c3:(am p (fwM b p s.1)).2=true
 ·have e:fwS b p s=(co .u64 s.1 (fwM b p s.1),s.2.1,s.2.2.1,s.2.2.2++[IW (fwH b p s.1) (am p (fwM b p s.1)).1]):=by rw[fwS,if_neg c1,if_neg c2,if_pos c3]
  exact fin e (by simp only;rw[hm,h1,z1]) z2 z3 z4 (by simp)
 ·have e:fwS b p s=(co .u64 s.1 (fwM b p s.1),bOr .u64 s.2.1 (fwM b p s.1),s.2.2.1,s.2.2.2):=by rw[fwS,if_neg c1,if_neg c2,if_neg c3]
  exact fin e (by simp only;rw[hm,h1,z1]) z2 z3 z4 (by simp)
theorem FwI.zero{b:Tbl}{p:Pkt}(h:0≤p.bits∧p.bits<18446744073709551616):FwI b p (p.bits,0,0,[]):=
 ⟨p.bits.toNat,64,by simp only;omega,by omega,λi h=>h,jF _,by simp,rfl⟩
theorem oU{p:Pkt}:0≤c7 p∧c7 p<8:=by
 unfold c7
 split
 ·rename_i h
  have:inK p.ent 1023=true:=by
   unfold cN at h;simp only[Bool.and_eq_true]at h;exact h.2.2.2.2.2.2.1
  unfold inK at this
  rw[Bool.and_eq_true,decide_eq_true_iff]at this
  exact⟨Int.tmod_nonneg _ this.1,Int.tmod_lt_of_pos _ (by omega)⟩
 ·omega
def Tu(b:Tbl)(p:Pkt):=okL [.agg [.int b.router,.int b.sub,.int b.len,.sl 2 (b.rows.map Rw.v) false],.agg [.int p.mode,.int p.sub,.int p.set,.int p.len,.int p.ttl,.int p.ent,.int p.ing,.int p.proto,.val (.int .u64 p.bits),.str p.pay]]
def Nc(b:Tbl)(p:Pkt)(t0:Int×Int×Int×List Cpy):NF:=⟨[(2,.k,.ref 0 0),(3,.k,.ref 1 0),(4,.k,.ref 2 0),(5,.k,.ref 3 0),(6,.k,.val (.int .u64 t0.1))],[.box (.agg [.int b.router,.int b.sub,.int b.len,.sl 2 (b.rows.map Rw.v) false]),.box (.agg [.int p.mode,.int p.sub,.int p.set,.int p.len,.int p.ttl,.int p.ent,.int p.ing,.int p.proto,.val (.int .u64 p.bits),.str p.pay]),.box (.agg [.val (.int .u64 0),.val (.int .u64 0),.sl 0 [] true]),.box (.agg [.val (.int .u64 t0.2.2.1),.val (.int .u64 t0.2.1),.vec 4]),.vec 12 (t0.2.2.2.map Cpy.v) (ab (λ_=>rfl) t0.2.2.2)]⟩
def Nb(b:Tbl)(p:Pkt)(t0:Int×Int×Int×List Cpy)(t1:Int):NF:=⟨[(2,.k,.ref 0 0),(3,.k,.ref 1 0),(4,.k,.ref 2 0),(5,.k,.ref 3 0),(6,.k,.val (.int .u64 t0.1)),(7,.k,.int (bS t0.1)),(8,.k,.int t1)],[.box (.agg [.int b.router,.int b.sub,.int b.len,.sl 2 (b.rows.map Rw.v) false]),.box (.agg [.int p.mode,.int p.sub,.int p.set,.int p.len,.int p.ttl,.int p.ent,.int p.ing,.int p.proto,.val (.int .u64 p.bits),.str p.pay]),.box (.agg [.val (.int .u64 0),.val (.int .u64 0),.sl 0 [] true]),.box (.agg [.val (.int .u64 t0.2.2.1),.val (.int .u64 t0.2.1),.vec 4]),.vec 12 (t0.2.2.2.map Cpy.v) (ab (λ_=>rfl) t0.2.2.2)]⟩
def Na(b:Tbl)(p:Pkt)(t0:Int×Int×Int×List Cpy)(t2:Int):NF:=⟨[(2,.k,.ref 0 0),(3,.k,.ref 1 0),(4,.k,.ref 2 0),(5,.k,.ref 3 0),(6,.k,.val (.int .u64 t0.1)),(7,.k,.int (bS t0.1)),(10,.k,.int t2)],[.box (.agg [.int b.router,.int b.sub,.int b.len,.sl 2 (b.rows.map Rw.v) false]),.box (.agg [.int p.mode,.int p.sub,.int p.set,.int p.len,.int p.ttl,.int p.ent,.int p.ing,.int p.proto,.val (.int .u64 p.bits),.str p.pay]),.box (.agg [.val (.int .u64 0),.val (.int .u64 0),.sl 0 [] true]),.box (.agg [.val (.int .u64 t0.2.2.1),.val (.int .u64 t0.2.1),.vec 4]),.vec 12 (t0.2.2.2.map Cpy.v) (ab (λ_=>rfl) t0.2.2.2)]⟩
def MZ(b:Tbl)(p:Pkt)(t0:Int×Int×Int×List Cpy)(t2:Int)(t3:Int):NF:=⟨[(2,.k,.ref 0 0),(3,.k,.ref 1 0),(4,.k,.ref 2 0),(5,.k,.ref 3 0),(6,.k,.val (.int .u64 t0.1)),(10,.k,.int t2),(11,.k,.val (.int .u64 t3))],[.box (.agg [.int b.router,.int b.sub,.int b.len,.sl 2 (b.rows.map Rw.v) false]),.box (.agg [.int p.mode,.int p.sub,.int p.set,.int p.len,.int p.ttl,.int p.ent,.int p.ing,.int p.proto,.val (.int .u64 p.bits),.str p.pay]),.box (.agg [.val (.int .u64 0),.val (.int .u64 0),.sl 0 [] true]),.box (.agg [.val (.int .u64 t0.2.2.1),.val (.int .u64 t0.2.1),.vec 4]),.vec 12 (t0.2.2.2.map Cpy.v) (ab (λ_=>rfl) t0.2.2.2)]⟩
def MY(b:Tbl)(p:Pkt)(t0:Int×Int×Int×List Cpy)(t2:Int)(t4:Int):NF:=⟨[(2,.k,.ref 0 0),(3,.k,.ref 1 0),(4,.k,.ref 2 0),(5,.k,.ref 3 0),(6,.k,.val (.int .u64 t0.1)),(10,.k,.int t2),(11,.k,.val (.int .u64 t4))],[.box (.agg [.int b.router,.int b.sub,.int b.len,.sl 2 (b.rows.map Rw.v) false]),.box (.agg [.int p.mode,.int p.sub,.int p.set,.int p.len,.int p.ttl,.int p.ent,.int p.ing,.int p.proto,.val (.int .u64 p.bits),.str p.pay]),.box (.agg [.val (.int .u64 0),.val (.int .u64 0),.sl 0 [] true]),.box (.agg [.val (.int .u64 t0.2.2.1),.val (.int .u64 t0.2.1),.vec 4]),.vec 12 (t0.2.2.2.map Cpy.v) (ab (λ_=>rfl) t0.2.2.2)]⟩
def MX(b:Tbl)(p:Pkt)(t0:Int×Int×Int×List Cpy)(t2:Int)(t4:Int)(t5:Bool):NF:=⟨[(2,.k,.ref 0 0),(3,.k,.ref 1 0),(4,.k,.ref 2 0),(5,.k,.ref 3 0),(6,.k,.val (.int .u64 t0.1)),(10,.k,.int t2),(11,.k,.val (.int .u64 t4)),(12,.k,.ref 5 0),(13,.k,.bool t5)],[.box (.agg [.int b.router,.int b.sub,.int b.len,.sl 2 (b.rows.map Rw.v) false]),.box (.agg [.int p.mode,.int p.sub,.int p.set,.int p.len,.int p.ttl,.int p.ent,.int p.ing,.int p.proto,.val (.int .u64 p.bits),.str p.pay]),.box (.agg [.val (.int .u64 0),.val (.int .u64 0),.sl 0 [] true]),.box (.agg [.val (.int .u64 t0.2.2.1),.val (.int .u64 t0.2.1),.vec 4]),.vec 12 (t0.2.2.2.map Cpy.v) (ab (λ_=>rfl) t0.2.2.2),.box (.agg [.int (((am p t4).1).mode),.int (((am p t4).1).sub),.int (((am p t4).1).set),.int (((am p t4).1).len),.int (((am p t4).1).ttl),.int (((am p t4).1).ent),.int (((am p t4).1).ing),.int (((am p t4).1).proto),.val (.int .u64 (((am p t4).1).bits)),.str (((am p t4).1).pay)])]⟩
@[reducible] def HY:Nat→Type
 | 0=>Int×Int×Int×List Cpy
 | 1=>Int
 | 2=>Int
 | 3=>Int
 | 4=>Int
 | 5=>Bool
 | _=>Unit
def xZ(r:Out):AV:=Out.v r
def xY(b:Tbl)(p:Pkt)(I0:(Int×Int×Int×List Cpy)→Prop)(m0:(Int×Int×Int×List Cpy)→Nat):Ax Tryz.prog HY (Out):=
 (.cmdL (.nilB 48 2 12) (.loop 0 (Nc b p) I0 m0 (p.bits,0,0,[]) [0,16,32,48,112] λ(t0:Int×Int×Int×List Cpy) b0 =>
(.br 37 (t0.1 != 0) (.callP (Tw t0.1)
(.join 1 (Nb b p t0) (λ(t1:Int)=>t1=(((atT p.set (bS t0.1) p.len).1):Int)) (λb1=>(.callP (JN p.set (bS t0.1) p.len)
(.bk 1 b1 (((atT p.set (bS t0.1) p.len).1):Int) [0,1,2,3,4]))) λ(t1:Int) =>
(.join 2 (Na b p t0) (λ(t2:Int)=>t2=((j2 b t1 (c7 p)):Int)) (λb2=>(.callP (FR p)
(.req 69 (0≤(c7 p)) λh1 =>
(.callP (HI b t1 (c7 p) h1)
(.bk 2 b2 ((j2 b t1 (c7 p)):Int) [0,1,2,3,4]))))) λ(t2:Int) =>
(.join 3 (MZ b p t0 t2) (λ(t3:Int)=>t3=((bB (bS t0.1)):Int)) (λb3=>(.callP (iW (bS t0.1))
(.bk 3 b3 ((bB (bS t0.1)):Int) [0,1,2,3,4]))) λ(t3:Int) =>
(.br 53 (t2==0) (.bk 0 b0 (co .u64 t0.1 t3,bOr .u64 t0.2.1 t3,t0.2.2.1,t0.2.2.2) [0,1,2,3,4])
(.br 133 (t2==b.router) (.bk 0 b0 (co .u64 t0.1 t3,t0.2.1,bOr .u64 t0.2.2.1 t3,t0.2.2.2) [0,1,2,3,4])
(.join 4 (MY b p t0 t2) (λ(t4:Int)=>t4=((dF .u64 t0.1 (lO b (c7 p) p.set t2)):Int)) (λb4=>(.callP (FR p)
(.req 245 (dN b=0∧0≤(c7 p)∧1≤t2) λh2 =>
(.callP (Sp b (c7 p) p.set t2 h2)
(.bk 4 b4 ((dF .u64 t0.1 (lO b (c7 p) p.set t2)):Int) [0,1,2,3,4]))))) λ(t4:Int) =>
(.join 5 (MX b p t0 t2 t4) (λ(t5:Bool)=>t5=(((am p t4).2):Bool)) (λb5=>(.callP (Mo p t4)
(.bk 5 b5 (((am p t4).2):Bool) [0,1,2,3,4,101]))) λ(t5:Bool) =>
(.br 22 t5 (.say (λR=>Idt (t0.2.2.2.map Cpy.v) (Rf (α:=List AV) [.agg [.int t2,.sl 0 [] true,.int (((am p t4).1).mode),.int (((am p t4).1).sub),.int (((am p t4).1).set),.int (((am p t4).1).len),.int (((am p t4).1).ttl),.int (((am p t4).1).ent),.int (((am p t4).1).ing),.int (((am p t4).1).proto),.val (.int .u64 (((am p t4).1).bits)),.str (((am p t4).1).pay)]]
(ck (decide ((t0.2.2.2.map Cpy.v).length+1≤1048576))
R))) (.app 134 (λy:AV=>y) (t0.2.2.2.map Cpy.v) [.agg [.int t2,.sl 0 [] true,.int (((am p t4).1).mode),.int (((am p t4).1).sub),.int (((am p t4).1).set),.int (((am p t4).1).len),.int (((am p t4).1).ttl),.int (((am p t4).1).ent),.int (((am p t4).1).ing),.int (((am p t4).1).proto),.val (.int .u64 (((am p t4).1).bits)),.str (((am p t4).1).pay)]]
(.say (λR=>Eu (.a [.k,(.s 1),.k,.k,.k,.k,.k,.k,.k,.k,.k,.k]) Cpy.v t0.2.2.2 [(⟨t2,[],((am p t4).1).mode,((am p t4).1).sub,((am p t4).1).set,((am p t4).1).len,((am p t4).1).ttl,((am p t4).1).ent,((am p t4).1).ing,((am p t4).1).proto,((am p t4).1).bits,((am p t4).1).pay⟩:Cpy)] [.agg [.int t2,.sl 0 [] true,.int (((am p t4).1).mode),.int (((am p t4).1).sub),.int (((am p t4).1).set),.int (((am p t4).1).len),.int (((am p t4).1).ttl),.int (((am p t4).1).ent),.int (((am p t4).1).ing),.int (((am p t4).1).proto),.val (.int .u64 (((am p t4).1).bits)),.str (((am p t4).1).pay)]] ∧
R) (.cmd (.wkV 134 (.a [.k,(.s 1),.k,.k,.k,.k,.k,.k,.k,.k,.k,.k]) Cpy.v (t0.2.2.2++[(⟨t2,[],((am p t4).1).mode,((am p t4).1).sub,((am p t4).1).set,((am p t4).1).len,((am p t4).1).ttl,((am p t4).1).ent,((am p t4).1).ing,((am p t4).1).proto,((am p t4).1).bits,((am p t4).1).pay⟩:Cpy)])) (.bk 0 b0 (co .u64 t0.1 t4,t0.2.1,t0.2.2.1,t0.2.2.2++[(⟨t2,[],((am p t4).1).mode,((am p t4).1).sub,((am p t4).1).set,((am p t4).1).len,((am p t4).1).ttl,((am p t4).1).ent,((am p t4).1).ing,((am p t4).1).proto,((am p t4).1).bits,((am p t4).1).pay⟩:Cpy)]) [0,1,2,3,134])))))
(.bk 0 b0 (co .u64 t0.1 t4,bOr .u64 t0.2.1 t4,t0.2.2.1,t0.2.2.2) [0,1,2,3,4]))))))))))
(.say (Rf (t0.2.2.2.map Cpy.v)) (.cmdL (.frzE 4 (t0.2.2.2.map Cpy.v) (ab (λ_=>rfl) t0.2.2.2)) (.ret ((⟨t0.2.2.1,t0.2.1,t0.2.2.2⟩:Out))))))))
def Cf(b:Tbl)(p:Pkt)(I0:(Int×Int×Int×List Cpy)→Prop)(m0:(Int×Int×Int×List Cpy)→Nat)(r0:Out):=(xY b p I0 m0).vp xZ r0
theorem ib{p:Pkt}(ok:okL (Pkt.v p).cells):0≤p.bits∧p.bits<18446744073709551616:=by
 obtain⟨_,_,_,_,_,_,_,_,h,_⟩:=ok
 exact UK h
theorem Ts(b:Tbl)(p:Pkt)(hF:okF b p)(ok:Tu b p):∃I0 m0,Cf b p I0 m0 (ya b p):=by
 have hb:0≤p.bits∧p.bits<18446744073709551616:=ib ok.2.1
 refine⟨FwI b p,λs=>(bG s.1).length,?_⟩
 dsimp only[Cf,xY,HY,Ax.vp,Ax.vc];simp only[vcU,rfU,List.length_map]
 refine⟨FwI.zero hb,?_⟩
 rintro s hI
 obtain⟨left,lost,loc,cp⟩:=s
 simp only at hI ⊢
 refine⟨λc=>⟨trivial,?_⟩,λc=>?_⟩
 ·have c:left≠0:=by simpa using c
  have hs:=hI.step hF c
  have hn:cp.length≤64:=by obtain⟨_,_,_,_,_,_,h,_⟩:=hI.ex;simp only at h;omega
  rintro _ rfl
  refine⟨⟨oU.1,trivial⟩,?_⟩
  rintro _ rfl
  refine⟨trivial,?_⟩
  rintro _ rfl
  refine⟨λc1=>?_,λc1=>⟨λc2=>?_,λc2=>⟨⟨?_,trivial⟩,?_⟩⟩⟩
  ·rw[PA (eq_of_beq c1)]at hs;exact hs
  ·rw[P9 (by simpa[fwH]using c1) (eq_of_beq c2)]at hs;exact hs
  ·exact⟨hF.1,oU.1,(qk hF.1 (by simpa using c1)).1⟩
  ·rintro _ rfl
   refine⟨trivial,?_⟩
   rintro _ rfl
   refine⟨λc3=>⟨by omega,j4 (λ_=>rfl) rfl,?_⟩,λc3=>?_⟩
   ·rw[P8 (by simpa[fwH]using c1) (by simpa[fwH]using c2) c3]at hs;exact hs
   ·rw[P7 (by simpa[fwH]using c1) (by simpa[fwH]using c2) (by rw[show(am p (fwM b p left)).2=false from c3];simp)]at hs;exact hs
 ·have c:left=0:=by simpa using c
  obtain⟨_,n,_,_,_,_,_,h⟩:=hI.ex
  rw[←h,tE c]
def Tt(b:Tbl)(p:Pkt)(hF:okF b p):PC Tryz.prog:=⟨112,[(.a [.k,.k,.k,(.s 2)]),.k],[.agg [.int b.router,.int b.sub,.int b.len,.sl 2 (b.rows.map Rw.v) false],.agg [.int p.mode,.int p.sub,.int p.set,.int p.len,.int p.ttl,.int p.ent,.int p.ing,.int p.proto,.val (.int .u64 p.bits),.str p.pay]],xZ (ya b p),ao.of_ok λok=>(Ts b p hF ok).elim λI0 h=>h.elim λm0 h=>aj (sh:=(.a [.k,.k,(.s 12)])) (enc:=xZ) (a:=(xY b p I0 m0).an) h (by kernel_rfl) (AV.pureB_ok rfl),ah (by kernel_rfl)⟩
def bV(b:Tbl)(p:Pkt):Out×Int:=if dN b≠0∨cN p=false then(⟨0,0,[]⟩,1)else if p.mode=2 then(⟨0,0,[]⟩,7)else if b.sub≠p.sub∨b.len≠p.len then(⟨0,0,[]⟩,8)else(ya b p,0)
def Tr(b:Tbl)(p:Pkt):=okL [.agg [.int b.router,.int b.sub,.int b.len,.sl 2 (b.rows.map Rw.v) false],.agg [.int p.mode,.int p.sub,.int p.set,.int p.len,.int p.ttl,.int p.ent,.int p.ing,.int p.proto,.val (.int .u64 p.bits),.str p.pay]]
def MW(b:Tbl)(p:Pkt)(t0:Bool):NF:=⟨[(2,.k,.ref 0 0),(3,.k,.ref 1 0),(4,.k,.ref 2 0),(13,.k,.bool t0)],[.box (.agg [.int b.router,.int b.sub,.int b.len,.sl 2 (b.rows.map Rw.v) false]),.box (.agg [.int p.mode,.int p.sub,.int p.set,.int p.len,.int p.ttl,.int p.ent,.int p.ing,.int p.proto,.val (.int .u64 p.bits),.str p.pay]),.box (.agg [.val (.int .u64 0),.val (.int .u64 0),.sl 0 [] true])]⟩
def MV(b:Tbl)(p:Pkt)(t1:Bool):NF:=⟨[(2,.k,.ref 0 0),(3,.k,.ref 1 0),(4,.k,.ref 2 0),(30,.k,.bool t1)],[.box (.agg [.int b.router,.int b.sub,.int b.len,.sl 2 (b.rows.map Rw.v) false]),.box (.agg [.int p.mode,.int p.sub,.int p.set,.int p.len,.int p.ttl,.int p.ent,.int p.ing,.int p.proto,.val (.int .u64 p.bits),.str p.pay]),.box (.agg [.val (.int .u64 0),.val (.int .u64 0),.sl 0 [] true])]⟩
@[reducible] def HX:Nat→Type
 | 0=>Bool
 | 1=>Bool
 | _=>Unit
def xX(r:Out×Int):AV:=.tup [Out.v r.1,.int r.2]
def xW(b:Tbl)(p:Pkt)(I0:Bool→Prop)(I1:Bool→Bool→Prop):Ax Tryz.prog HX (Out×Int):=
 (.pass (.pass (.join 0 (MW b p) (λ(t0:Bool)=>I0 t0) (λb0=>(.callP (Uz b)
(.br 128 ((dN b) != 0) (.bk 0 b0 ((true):Bool) [0,16,32])
(.callP (uS p)
(.bk 0 b0 ((!(cN p)):Bool) [0,16,32]))))) λ(t0:Bool) =>
(.br 3 t0 (.ret ((⟨0,0,[]⟩:Out),1))
(.br 51 (p.mode==2) (.ret ((⟨0,0,[]⟩:Out),7))
(.pass (.join 1 (MV b p) (λ(t1:Bool)=>I1 t0 t1) (λb1=>(.br 147 (p.sub != b.sub) (.bk 1 b1 ((true):Bool) [0,1,2])
(.bk 1 b1 ((p.len != b.len):Bool) [0,1,2]))) λ(t1:Bool) =>
(.br 3 t1 (.ret ((⟨0,0,[]⟩:Out),8))
(.req 35 (okF b p) λh1 =>
(.callP (Tt b p h1)
(.ret (ya b p,0))))))))))))
def Ce(b:Tbl)(p:Pkt)(I0:Bool→Prop)(I1:Bool→Bool→Prop)(r0:Out×Int):=(xW b p I0 I1).vp xX r0
theorem Tp(b:Tbl)(p:Pkt)(ok:Tr b p):∃I0 I1,Ce b p I0 I1 (bV b p):=by
 refine⟨λt=>t=decide (dN b≠0∨cN p=false),λ_ t=>t=decide (b.sub≠p.sub∨b.len≠p.len),?_⟩
 dsimp only[Ce,xW,HX,Ax.vp,Ax.vc];simp only[vcU,rfU,List.length_map]
 refine⟨⟨λc=>?_,λc=>?_⟩,?_⟩
 ·have c:dN b≠0:=by simpa using c
  simp[c]
 ·have c:dN b=0:=by simpa using c
  cases cN p<;>simp[c]
 rintro _ rfl
 refine⟨λc=>by rw[bV,if_pos (of_decide_eq_true c)],λc=>⟨λd=>?_,λd=>⟨⟨λe=>?_,λe=>?_⟩,?_⟩⟩⟩
 ·rw[bV,if_neg (of_decide_eq_false c),if_pos (eq_of_beq d)]
 ·have e:p.sub≠b.sub:=by simpa using e
  exact(decide_eq_true (.inl (Ne.symm e))).symm
 ·have e:p.sub=b.sub:=by simpa using e
  rw[Bool.eq_iff_iff,bne_iff_ne,decide_eq_true_iff];simp[e];omega
 rintro _ rfl
 refine⟨λe=>?_,λe=>?_⟩
 ·rw[bV,if_neg (of_decide_eq_false c),if_neg (by simpa using d),if_pos (of_decide_eq_true e)]
 ·have c':=of_decide_eq_false c
  have e':=of_decide_eq_false e
  have hF:okF b p:=⟨by omega,by cases q:cN p;exact absurd (.inr q) c';rfl,by omega⟩
  exact⟨hF,by rw[bV,if_neg c',if_neg (by simpa using d),if_neg e']⟩
def Tq(b:Tbl)(p:Pkt):PC Tryz.prog:=⟨49,[(.a [.k,.k,.k,(.s 2)]),.k],[.agg [.int b.router,.int b.sub,.int b.len,.sl 2 (b.rows.map Rw.v) false],.agg [.int p.mode,.int p.sub,.int p.set,.int p.len,.int p.ttl,.int p.ent,.int p.ing,.int p.proto,.val (.int .u64 p.bits),.str p.pay]],xX (bV b p),ao.of_ok λok=>(Tp b p ok).elim λI0 h=>h.elim λI1 h=>aj (sh:=(.a [(.a [.k,.k,(.s 12)]),.k])) (enc:=xX) (a:=(xW b p I0 I1).an) h (by kernel_rfl) (AV.pureB_ok rfl),ah (by kernel_rfl)⟩
theorem Ia{len:Int}(h:aJ len=true):∃n:Nat,eN len=n∧n<18446744073709551616:=by
 unfold eN
 rw[if_pos h]
 have hv:=bL.mp h
 have e:(64-len)=((64-len).toNat:Nat):=by omega
 rw[e,show(18446744073709551615:Int)=((18446744073709551615:Nat):Int)from rfl,rZ (by omega)]
 exact⟨_,rfl,Nat.lt_of_le_of_lt (Nat.div_le_self _ _) (by omega)⟩
theorem Kx{y x:Nat}{len:Int}(hy:y<18446744073709551616)(hx:x<18446744073709551616)(hs:∀i,x.testBit i=true→y.testBit i=true)(h:jf y len=true):jf x len=true:=by
 unfold jf at h ⊢
 rw[Bool.and_eq_true,beq_iff_eq]at h ⊢
 refine⟨h.1,?_⟩
 obtain⟨n,h1,h2⟩:=Ia h.1
 have h3:=h.2
 rw[h1]at h3 ⊢
 obtain⟨z,z1,z2,z3⟩:=u9 hy h2
 rw[z1]at h3
 have z0:z=0:=by omega
 refine Ep hx h2 λi hi=>?_
 have:=z3 i
 rw[z0,hs i hi]at this
 simpa using this
theorem AX{p:Pkt}{y x:Nat}{ttl:Int}(hp:cN p=true)(hb:p.bits=y)(hy:y<18446744073709551616)(hx:x<18446744073709551616)(hs:∀i,x.testBit i=true→y.testBit i=true)(ht:0≤ttl∧ttl≤63):cN ⟨p.mode,p.sub,p.set,p.len,ttl,p.ent,p.ing,p.proto,x,p.pay⟩=true:=by
 unfold cN at hp ⊢
 simp only[Bool.and_eq_true]at hp ⊢
 obtain⟨h1,h2,h3,h4,h5,h6,h7⟩:=hp
 rw[hb]at h5
 refine⟨h1,h2,h3,h4,Kx hy hx hs h5,?_,h7⟩
 unfold inK
 rw[Bool.and_eq_true,decide_eq_true_iff,decide_eq_true_iff];exact ht
theorem kP{p:Pkt}(hp:cN p=true):0≤p.ttl∧p.ttl≤63∧0≤p.set∧p.set≤31:=by
 unfold cN at hp
 simp only[Bool.and_eq_true]at hp
 obtain⟨h1,h2,h3,h4,h5,h6,h7⟩:=hp
 unfold inK at h6 h4
 rw[Bool.and_eq_true,decide_eq_true_iff,decide_eq_true_iff]at h6 h4
 omega
theorem GG{p:Pkt}{y x o:Nat}(hp:cN p=true)(hb:p.bits=y)(hy:y<18446744073709551616)(hx:x<18446744073709551616)(ho:o<18446744073709551616)(hs:∀i,x.testBit i=true→y.testBit i=true) :
  am ⟨p.mode,p.sub,p.set,p.len,p.ttl,p.ent,p.ing,p.proto,x,p.pay⟩ ((x &&& o:Nat):Int)=am p ((x &&& o:Nat):Int):=by
 have hxo:x &&& o<18446744073709551616:=Nat.lt_of_le_of_lt Nat.and_le_left hx
 have e1:dF .u64 (x:Int) ((x &&& o:Nat):Int)=((x &&& o:Nat):Int):=by
  rw[ga hx hxo]
  congr 1
  refine ju λi=>?_
  rw[Nat.testBit_and,Nat.testBit_and];cases x.testBit i<;>rfl
 have e2:dF .u64 p.bits ((x &&& o:Nat):Int)=((x &&& o:Nat):Int):=by
  rw[hb,ga hy hxo]
  congr 1
  refine ju λi=>?_
  rw[Nat.testBit_and,Nat.testBit_and]
  cases q:x.testBit i
  ·simp
  ·rw[hs i q];rfl
 unfold am Ss
 simp only
 rw[e1,e2,AX hp hb hy hx hs ⟨(kP hp).1,(kP hp).2.1⟩,hp]
def To(b:Tbl)(p:Pkt):=okL [.agg [.int b.router,.int b.sub,.int b.len,.sl 2 (b.rows.map Rw.v) false],.agg [.int p.mode,.int p.sub,.int p.set,.int p.len,.int p.ttl,.int p.ent,.int p.ing,.int p.proto,.val (.int .u64 p.bits),.str p.pay]]
def MU(b:Tbl)(p:Pkt)(t0:Bool):NF:=⟨[(2,.k,.ref 0 0),(3,.k,.ref 1 0),(4,.k,.ref 2 0),(18,.k,.bool t0)],[.box (.agg [.int b.router,.int b.sub,.int b.len,.sl 2 (b.rows.map Rw.v) false]),.box (.agg [.int p.mode,.int p.sub,.int p.set,.int p.len,.int p.ttl,.int p.ent,.int p.ing,.int p.proto,.val (.int .u64 p.bits),.str p.pay]),.box (.agg [.val (.int .u64 0),.val (.int .u64 0),.sl 0 [] true])]⟩
def MT(b:Tbl)(p:Pkt)(t1:Bool):NF:=⟨[(2,.k,.ref 0 0),(3,.k,.ref 1 0),(4,.k,.ref 2 0),(33,.k,.bool t1)],[.box (.agg [.int b.router,.int b.sub,.int b.len,.sl 2 (b.rows.map Rw.v) false]),.box (.agg [.int p.mode,.int p.sub,.int p.set,.int p.len,.int p.ttl,.int p.ent,.int p.ing,.int p.proto,.val (.int .u64 p.bits),.str p.pay]),.box (.agg [.val (.int .u64 0),.val (.int .u64 0),.sl 0 [] true])]⟩
def MS(b:Tbl)(p:Pkt)(t2:Int×Int×Int×List Cpy):NF:=⟨[(2,.k,.ref 0 0),(3,.k,.ref 1 0),(4,.k,.ref 2 0),(6,.k,.int (c7 p)),(7,.k,.ref 3 0),(8,.k,.val (.int .u64 t2.1))],[.box (.agg [.int b.router,.int b.sub,.int b.len,.sl 2 (b.rows.map Rw.v) false]),.box (.agg [.int p.mode,.int p.sub,.int p.set,.int p.len,.int p.ttl,.int p.ent,.int p.ing,.int p.proto,.val (.int .u64 p.bits),.str p.pay]),.box (.agg [.val (.int .u64 0),.val (.int .u64 0),.sl 0 [] true]),.box (.agg [.val (.int .u64 t2.2.2.1),.val (.int .u64 t2.2.1),.vec 4]),.vec 12 (t2.2.2.2.map Cpy.v) (ab (λ_=>rfl) t2.2.2.2)]⟩
def MR(b:Tbl)(p:Pkt)(t2:Int×Int×Int×List Cpy)(t3:Int×Int):NF:=⟨[(2,.k,.ref 0 0),(3,.k,.ref 1 0),(4,.k,.ref 2 0),(6,.k,.int (c7 p)),(7,.k,.ref 3 0),(8,.k,.val (.int .u64 t2.1)),(10,.k,.val (.int .u64 t3.1)),(11,.k,.int t3.2)],[.box (.agg [.int b.router,.int b.sub,.int b.len,.sl 2 (b.rows.map Rw.v) false]),.box (.agg [.int p.mode,.int p.sub,.int p.set,.int p.len,.int p.ttl,.int p.ent,.int p.ing,.int p.proto,.val (.int .u64 p.bits),.str p.pay]),.box (.agg [.val (.int .u64 0),.val (.int .u64 0),.sl 0 [] true]),.box (.agg [.val (.int .u64 t2.2.2.1),.val (.int .u64 t2.2.1),.vec 4]),.vec 12 (t2.2.2.2.map Cpy.v) (ab (λ_=>rfl) t2.2.2.2)]⟩
def MQ(b:Tbl)(p:Pkt)(t2:Int×Int×Int×List Cpy)(t3:Int×Int)(t4:Int):NF:=⟨[(2,.k,.ref 0 0),(3,.k,.ref 1 0),(4,.k,.ref 2 0),(6,.k,.int (c7 p)),(7,.k,.ref 3 0),(8,.k,.val (.int .u64 t2.1)),(10,.k,.val (.int .u64 t3.1)),(13,.k,.int t4)],[.box (.agg [.int b.router,.int b.sub,.int b.len,.sl 2 (b.rows.map Rw.v) false]),.box (.agg [.int p.mode,.int p.sub,.int p.set,.int p.len,.int p.ttl,.int p.ent,.int p.ing,.int p.proto,.val (.int .u64 p.bits),.str p.pay]),.box (.agg [.val (.int .u64 0),.val (.int .u64 0),.sl 0 [] true]),.box (.agg [.val (.int .u64 t2.2.2.1),.val (.int .u64 t2.2.1),.vec 4]),.vec 12 (t2.2.2.2.map Cpy.v) (ab (λ_=>rfl) t2.2.2.2)]⟩
def MP(b:Tbl)(p:Pkt)(t2:Int×Int×Int×List Cpy)(t4:Int)(t5:Int):NF:=⟨[(2,.k,.ref 0 0),(3,.k,.ref 1 0),(4,.k,.ref 2 0),(6,.k,.int (c7 p)),(7,.k,.ref 3 0),(8,.k,.val (.int .u64 t2.1)),(13,.k,.int t4),(14,.k,.val (.int .u64 t5))],[.box (.agg [.int b.router,.int b.sub,.int b.len,.sl 2 (b.rows.map Rw.v) false]),.box (.agg [.int p.mode,.int p.sub,.int p.set,.int p.len,.int p.ttl,.int p.ent,.int p.ing,.int p.proto,.val (.int .u64 p.bits),.str p.pay]),.box (.agg [.val (.int .u64 0),.val (.int .u64 0),.sl 0 [] true]),.box (.agg [.val (.int .u64 t2.2.2.1),.val (.int .u64 t2.2.1),.vec 4]),.vec 12 (t2.2.2.2.map Cpy.v) (ab (λ_=>rfl) t2.2.2.2)]⟩
def MO(b:Tbl)(p:Pkt)(t2:Int×Int×Int×List Cpy)(t4:Int)(t5:Int)(t6:Bool):NF:=⟨[(2,.k,.ref 0 0),(3,.k,.ref 1 0),(4,.k,.ref 2 0),(6,.k,.int (c7 p)),(7,.k,.ref 3 0),(8,.k,.val (.int .u64 t2.1)),(13,.k,.int t4),(14,.k,.val (.int .u64 t5)),(16,.k,.ref 5 0),(17,.k,.bool t6)],[.box (.agg [.int b.router,.int b.sub,.int b.len,.sl 2 (b.rows.map Rw.v) false]),.box (.agg [.int p.mode,.int p.sub,.int p.set,.int p.len,.int p.ttl,.int p.ent,.int p.ing,.int p.proto,.val (.int .u64 p.bits),.str p.pay]),.box (.agg [.val (.int .u64 0),.val (.int .u64 0),.sl 0 [] true]),.box (.agg [.val (.int .u64 t2.2.2.1),.val (.int .u64 t2.2.1),.vec 4]),.vec 12 (t2.2.2.2.map Cpy.v) (ab (λ_=>rfl) t2.2.2.2),.box (.agg [.int (((am (⟨p.mode,p.sub,p.set,p.len,p.ttl,p.ent,p.ing,p.proto,t2.1,p.pay⟩:Pkt) t5).1).mode),.int (((am (⟨p.mode,p.sub,p.set,p.len,p.ttl,p.ent,p.ing,p.proto,t2.1,p.pay⟩:Pkt) t5).1).sub),.int (((am (⟨p.mode,p.sub,p.set,p.len,p.ttl,p.ent,p.ing,p.proto,t2.1,p.pay⟩:Pkt) t5).1).set),.int (((am (⟨p.mode,p.sub,p.set,p.len,p.ttl,p.ent,p.ing,p.proto,t2.1,p.pay⟩:Pkt) t5).1).len),.int (((am (⟨p.mode,p.sub,p.set,p.len,p.ttl,p.ent,p.ing,p.proto,t2.1,p.pay⟩:Pkt) t5).1).ttl),.int (((am (⟨p.mode,p.sub,p.set,p.len,p.ttl,p.ent,p.ing,p.proto,t2.1,p.pay⟩:Pkt) t5).1).ent),.int (((am (⟨p.mode,p.sub,p.set,p.len,p.ttl,p.ent,p.ing,p.proto,t2.1,p.pay⟩:Pkt) t5).1).ing),.int (((am (⟨p.mode,p.sub,p.set,p.len,p.ttl,p.ent,p.ing,p.proto,t2.1,p.pay⟩:Pkt) t5).1).proto),.val (.int .u64 (((am (⟨p.mode,p.sub,p.set,p.len,p.ttl,p.ent,p.ing,p.proto,t2.1,p.pay⟩:Pkt) t5).1).bits)),.str (((am (⟨p.mode,p.sub,p.set,p.len,p.ttl,p.ent,p.ing,p.proto,t2.1,p.pay⟩:Pkt) t5).1).pay)])]⟩
@[reducible] def HW:Nat→Type
 | 0=>Bool
 | 1=>Bool
 | 2=>Int×Int×Int×List Cpy
 | 3=>Int×Int
 | 4=>Int
 | 5=>Int
 | 6=>Bool
 | _=>Unit
def xV(r:Out×Int):AV:=.tup [Out.v r.1,.int r.2]
def xU(b:Tbl)(p:Pkt)(I0:Bool→Prop)(I1:Bool→Bool→Prop)(I2:Bool→Bool→(Int×Int×Int×List Cpy)→Prop)(m2:Bool→Bool→(Int×Int×Int×List Cpy)→Nat):Ax Tryz.prog HW (Out×Int):=
 (.pass (.pass (.join 0 (MU b p) (λ(t0:Bool)=>I0 t0) (λb0=>(.callP (Jm b)
(.br 128 ((dN b) != 0) (.bk 0 b0 ((true):Bool) [0,16,32])
(.callP (oq p)
(.bk 0 b0 ((!(cN p)):Bool) [0,16,32]))))) λ(t0:Bool) =>
(.br 3 t0 (.ret ((⟨0,0,[]⟩:Out),1))
(.br 67 (p.mode==2) (.ret ((⟨0,0,[]⟩:Out),7))
(.join 1 (MT b p) (λ(t1:Bool)=>I1 t0 t1) (λb1=>(.br 163 (b.sub != p.sub) (.bk 1 b1 ((true):Bool) [0,1,2])
(.bk 1 b1 ((b.len != p.len):Bool) [0,1,2]))) λ(t1:Bool) =>
(.br 3 t1 (.ret ((⟨0,0,[]⟩:Out),8))
(.callP (Ri p)
(.cmdL (.nilB 51 2 12) (.loop 2 (MS b p) (I2 t0 t1) (m2 t0 t1) (p.bits,0,0,[]) [0,1,2,51,115] λ(t2:Int×Int×Int×List Cpy) b2 =>
(.br 37 (t2.1 != 0) (.callP (Id t2.1)
(.pass (.say (ck (decide (0≤(bS t2.1)))) (.join 3 (MR b p t2) (λ(t3:Int×Int)=>t3=((gX .u64 1 (bS t2.1),(atT p.set (bS t2.1) p.len).1):Int×Int)) (λb3=>(.callP (PK p.set (bS t2.1) p.len)
(.bk 3 b3 (gX .u64 1 (bS t2.1),(atT p.set (bS t2.1) p.len).1) [0,1,2,3,4]))) λ(t3:Int×Int) =>
(.join 4 (MQ b p t2 t3) (λ(t4:Int)=>t4=((wE b t3.2 (c7 p)):Int)) (λb4=>(.callP (RO b t3.2 (c7 p))
(.bk 4 b4 ((wE b t3.2 (c7 p)):Int) [0,1,2,3,4]))) λ(t4:Int) =>
(.br 53 (t4==0) (.bk 2 b2 (co .u64 t2.1 t3.1,bOr .u64 t2.2.1 t3.1,t2.2.2.1,t2.2.2.2) [0,1,2,3,4])
(.br 117 (t4==b.router) (.bk 2 b2 (co .u64 t2.1 t3.1,t2.2.1,bOr .u64 t2.2.2.1 t3.1,t2.2.2.2) [0,1,2,3,4])
(.join 5 (MP b p t2 t4) (λ(t5:Int)=>t5=((dF .u64 t2.1 (wT b (c7 p) p.set t4)):Int)) (λb5=>(.callP (Sm b (c7 p) p.set t4)
(.bk 5 b5 ((dF .u64 t2.1 (wT b (c7 p) p.set t4)):Int) [0,1,2,3,4]))) λ(t5:Int) =>
(.pass (.pass (.pass (.join 6 (MO b p t2 t4 t5) (λ(t6:Bool)=>t6=(((am (⟨p.mode,p.sub,p.set,p.len,p.ttl,p.ent,p.ing,p.proto,t2.1,p.pay⟩:Pkt) t5).2):Bool)) (λb6=>(.callP (Ml (⟨p.mode,p.sub,p.set,p.len,p.ttl,p.ent,p.ing,p.proto,t2.1,p.pay⟩:Pkt) t5)
(.bk 6 b6 (((am (⟨p.mode,p.sub,p.set,p.len,p.ttl,p.ent,p.ing,p.proto,t2.1,p.pay⟩:Pkt) t5).2):Bool) [0,1,2,3,4,197]))) λ(t6:Bool) =>
(.br 22 t6 (.say (λR=>Idt (t2.2.2.2.map Cpy.v) (Rf (α:=List AV) [.agg [.int t4,.sl 0 [] true,.int (((am (⟨p.mode,p.sub,p.set,p.len,p.ttl,p.ent,p.ing,p.proto,t2.1,p.pay⟩:Pkt) t5).1).mode),.int (((am (⟨p.mode,p.sub,p.set,p.len,p.ttl,p.ent,p.ing,p.proto,t2.1,p.pay⟩:Pkt) t5).1).sub),.int (((am (⟨p.mode,p.sub,p.set,p.len,p.ttl,p.ent,p.ing,p.proto,t2.1,p.pay⟩:Pkt) t5).1).set),.int (((am (⟨p.mode,p.sub,p.set,p.len,p.ttl,p.ent,p.ing,p.proto,t2.1,p.pay⟩:Pkt) t5).1).len),.int (((am (⟨p.mode,p.sub,p.set,p.len,p.ttl,p.ent,p.ing,p.proto,t2.1,p.pay⟩:Pkt) t5).1).ttl),.int (((am (⟨p.mode,p.sub,p.set,p.len,p.ttl,p.ent,p.ing,p.proto,t2.1,p.pay⟩:Pkt) t5).1).ent),.int (((am (⟨p.mode,p.sub,p.set,p.len,p.ttl,p.ent,p.ing,p.proto,t2.1,p.pay⟩:Pkt) t5).1).ing),.int (((am (⟨p.mode,p.sub,p.set,p.len,p.ttl,p.ent,p.ing,p.proto,t2.1,p.pay⟩:Pkt) t5).1).proto),.val (.int .u64 (((am (⟨p.mode,p.sub,p.set,p.len,p.ttl,p.ent,p.ing,p.proto,t2.1,p.pay⟩:Pkt) t5).1).bits)),.str (((am (⟨p.mode,p.sub,p.set,p.len,p.ttl,p.ent,p.ing,p.proto,t2.1,p.pay⟩:Pkt) t5).1).pay)]]
(ck (decide ((t2.2.2.2.map Cpy.v).length+1≤1048576))
R))) (.app 134 (λy:AV=>y) (t2.2.2.2.map Cpy.v) [.agg [.int t4,.sl 0 [] true,.int (((am (⟨p.mode,p.sub,p.set,p.len,p.ttl,p.ent,p.ing,p.proto,t2.1,p.pay⟩:Pkt) t5).1).mode),.int (((am (⟨p.mode,p.sub,p.set,p.len,p.ttl,p.ent,p.ing,p.proto,t2.1,p.pay⟩:Pkt) t5).1).sub),.int (((am (⟨p.mode,p.sub,p.set,p.len,p.ttl,p.ent,p.ing,p.proto,t2.1,p.pay⟩:Pkt) t5).1).set),.int (((am (⟨p.mode,p.sub,p.set,p.len,p.ttl,p.ent,p.ing,p.proto,t2.1,p.pay⟩:Pkt) t5).1).len),.int (((am (⟨p.mode,p.sub,p.set,p.len,p.ttl,p.ent,p.ing,p.proto,t2.1,p.pay⟩:Pkt) t5).1).ttl),.int (((am (⟨p.mode,p.sub,p.set,p.len,p.ttl,p.ent,p.ing,p.proto,t2.1,p.pay⟩:Pkt) t5).1).ent),.int (((am (⟨p.mode,p.sub,p.set,p.len,p.ttl,p.ent,p.ing,p.proto,t2.1,p.pay⟩:Pkt) t5).1).ing),.int (((am (⟨p.mode,p.sub,p.set,p.len,p.ttl,p.ent,p.ing,p.proto,t2.1,p.pay⟩:Pkt) t5).1).proto),.val (.int .u64 (((am (⟨p.mode,p.sub,p.set,p.len,p.ttl,p.ent,p.ing,p.proto,t2.1,p.pay⟩:Pkt) t5).1).bits)),.str (((am (⟨p.mode,p.sub,p.set,p.len,p.ttl,p.ent,p.ing,p.proto,t2.1,p.pay⟩:Pkt) t5).1).pay)]]
(.say (λR=>Eu (.a [.k,(.s 1),.k,.k,.k,.k,.k,.k,.k,.k,.k,.k]) Cpy.v t2.2.2.2 [(⟨t4,[],((am (⟨p.mode,p.sub,p.set,p.len,p.ttl,p.ent,p.ing,p.proto,t2.1,p.pay⟩:Pkt) t5).1).mode,((am (⟨p.mode,p.sub,p.set,p.len,p.ttl,p.ent,p.ing,p.proto,t2.1,p.pay⟩:Pkt) t5).1).sub,((am (⟨p.mode,p.sub,p.set,p.len,p.ttl,p.ent,p.ing,p.proto,t2.1,p.pay⟩:Pkt) t5).1).set,((am (⟨p.mode,p.sub,p.set,p.len,p.ttl,p.ent,p.ing,p.proto,t2.1,p.pay⟩:Pkt) t5).1).len,((am (⟨p.mode,p.sub,p.set,p.len,p.ttl,p.ent,p.ing,p.proto,t2.1,p.pay⟩:Pkt) t5).1).ttl,((am (⟨p.mode,p.sub,p.set,p.len,p.ttl,p.ent,p.ing,p.proto,t2.1,p.pay⟩:Pkt) t5).1).ent,((am (⟨p.mode,p.sub,p.set,p.len,p.ttl,p.ent,p.ing,p.proto,t2.1,p.pay⟩:Pkt) t5).1).ing,((am (⟨p.mode,p.sub,p.set,p.len,p.ttl,p.ent,p.ing,p.proto,t2.1,p.pay⟩:Pkt) t5).1).proto,((am (⟨p.mode,p.sub,p.set,p.len,p.ttl,p.ent,p.ing,p.proto,t2.1,p.pay⟩:Pkt) t5).1).bits,((am (⟨p.mode,p.sub,p.set,p.len,p.ttl,p.ent,p.ing,p.proto,t2.1,p.pay⟩:Pkt) t5).1).pay⟩:Cpy)] [.agg [.int t4,.sl 0 [] true,.int (((am (⟨p.mode,p.sub,p.set,p.len,p.ttl,p.ent,p.ing,p.proto,t2.1,p.pay⟩:Pkt) t5).1).mode),.int (((am (⟨p.mode,p.sub,p.set,p.len,p.ttl,p.ent,p.ing,p.proto,t2.1,p.pay⟩:Pkt) t5).1).sub),.int (((am (⟨p.mode,p.sub,p.set,p.len,p.ttl,p.ent,p.ing,p.proto,t2.1,p.pay⟩:Pkt) t5).1).set),.int (((am (⟨p.mode,p.sub,p.set,p.len,p.ttl,p.ent,p.ing,p.proto,t2.1,p.pay⟩:Pkt) t5).1).len),.int (((am (⟨p.mode,p.sub,p.set,p.len,p.ttl,p.ent,p.ing,p.proto,t2.1,p.pay⟩:Pkt) t5).1).ttl),.int (((am (⟨p.mode,p.sub,p.set,p.len,p.ttl,p.ent,p.ing,p.proto,t2.1,p.pay⟩:Pkt) t5).1).ent),.int (((am (⟨p.mode,p.sub,p.set,p.len,p.ttl,p.ent,p.ing,p.proto,t2.1,p.pay⟩:Pkt) t5).1).ing),.int (((am (⟨p.mode,p.sub,p.set,p.len,p.ttl,p.ent,p.ing,p.proto,t2.1,p.pay⟩:Pkt) t5).1).proto),.val (.int .u64 (((am (⟨p.mode,p.sub,p.set,p.len,p.ttl,p.ent,p.ing,p.proto,t2.1,p.pay⟩:Pkt) t5).1).bits)),.str (((am (⟨p.mode,p.sub,p.set,p.len,p.ttl,p.ent,p.ing,p.proto,t2.1,p.pay⟩:Pkt) t5).1).pay)]] ∧
R) (.cmd (.wkV 134 (.a [.k,(.s 1),.k,.k,.k,.k,.k,.k,.k,.k,.k,.k]) Cpy.v (t2.2.2.2++[(⟨t4,[],((am (⟨p.mode,p.sub,p.set,p.len,p.ttl,p.ent,p.ing,p.proto,t2.1,p.pay⟩:Pkt) t5).1).mode,((am (⟨p.mode,p.sub,p.set,p.len,p.ttl,p.ent,p.ing,p.proto,t2.1,p.pay⟩:Pkt) t5).1).sub,((am (⟨p.mode,p.sub,p.set,p.len,p.ttl,p.ent,p.ing,p.proto,t2.1,p.pay⟩:Pkt) t5).1).set,((am (⟨p.mode,p.sub,p.set,p.len,p.ttl,p.ent,p.ing,p.proto,t2.1,p.pay⟩:Pkt) t5).1).len,((am (⟨p.mode,p.sub,p.set,p.len,p.ttl,p.ent,p.ing,p.proto,t2.1,p.pay⟩:Pkt) t5).1).ttl,((am (⟨p.mode,p.sub,p.set,p.len,p.ttl,p.ent,p.ing,p.proto,t2.1,p.pay⟩:Pkt) t5).1).ent,((am (⟨p.mode,p.sub,p.set,p.len,p.ttl,p.ent,p.ing,p.proto,t2.1,p.pay⟩:Pkt) t5).1).ing,((am (⟨p.mode,p.sub,p.set,p.len,p.ttl,p.ent,p.ing,p.proto,t2.1,p.pay⟩:Pkt) t5).1).proto,((am (⟨p.mode,p.sub,p.set,p.len,p.ttl,p.ent,p.ing,p.proto,t2.1,p.pay⟩:Pkt) t5).1).bits,((am (⟨p.mode,p.sub,p.set,p.len,p.ttl,p.ent,p.ing,p.proto,t2.1,p.pay⟩:Pkt) t5).1).pay⟩:Cpy)])) (.bk 2 b2 (co .u64 t2.1 t5,t2.2.1,t2.2.2.1,t2.2.2.2++[(⟨t4,[],((am (⟨p.mode,p.sub,p.set,p.len,p.ttl,p.ent,p.ing,p.proto,t2.1,p.pay⟩:Pkt) t5).1).mode,((am (⟨p.mode,p.sub,p.set,p.len,p.ttl,p.ent,p.ing,p.proto,t2.1,p.pay⟩:Pkt) t5).1).sub,((am (⟨p.mode,p.sub,p.set,p.len,p.ttl,p.ent,p.ing,p.proto,t2.1,p.pay⟩:Pkt) t5).1).set,((am (⟨p.mode,p.sub,p.set,p.len,p.ttl,p.ent,p.ing,p.proto,t2.1,p.pay⟩:Pkt) t5).1).len,((am (⟨p.mode,p.sub,p.set,p.len,p.ttl,p.ent,p.ing,p.proto,t2.1,p.pay⟩:Pkt) t5).1).ttl,((am (⟨p.mode,p.sub,p.set,p.len,p.ttl,p.ent,p.ing,p.proto,t2.1,p.pay⟩:Pkt) t5).1).ent,((am (⟨p.mode,p.sub,p.set,p.len,p.ttl,p.ent,p.ing,p.proto,t2.1,p.pay⟩:Pkt) t5).1).ing,((am (⟨p.mode,p.sub,p.set,p.len,p.ttl,p.ent,p.ing,p.proto,t2.1,p.pay⟩:Pkt) t5).1).proto,((am (⟨p.mode,p.sub,p.set,p.len,p.ttl,p.ent,p.ing,p.proto,t2.1,p.pay⟩:Pkt) t5).1).bits,((am (⟨p.mode,p.sub,p.set,p.len,p.ttl,p.ent,p.ing,p.proto,t2.1,p.pay⟩:Pkt) t5).1).pay⟩:Cpy)]) [0,1,2,3,134])))))
(.bk 2 b2 (co .u64 t2.1 t5,bOr .u64 t2.2.1 t5,t2.2.2.1,t2.2.2.2) [0,1,2,3,4]))))))))))))))
(.say (Rf (t2.2.2.2.map Cpy.v)) (.cmdL (.frzE 4 (t2.2.2.2.map Cpy.v) (ab (λ_=>rfl) t2.2.2.2)) (.ret ((⟨t2.2.2.1,t2.2.1,t2.2.2.2⟩:Out),0)))))))))))))))
def Cd(b:Tbl)(p:Pkt)(I0:Bool→Prop)(I1:Bool→Bool→Prop)(I2:Bool→Bool→(Int×Int×Int×List Cpy)→Prop)(m2:Bool→Bool→(Int×Int×Int×List Cpy)→Nat)(r0:Out×Int):=(xU b p I0 I1 I2 m2).vp xV r0
theorem Tm(b:Tbl)(p:Pkt)(ok:To b p):∃I0 I1 I2 m2,Cd b p I0 I1 I2 m2 (bV b p):=by
 have hb:0≤p.bits∧p.bits<18446744073709551616:=ib ok.2.1
 refine⟨λt=>t=decide (dN b≠0∨cN p=false),λ_ t=>t=decide (b.sub≠p.sub∨b.len≠p.len),λ_ _=>FwI b p,λ_ _ s=>(bG s.1).length,?_⟩
 dsimp only[Cd,xU,HW,Ax.vp,Ax.vc];simp only[vcU,rfU,List.length_map]
 refine⟨⟨λc=>?_,λc=>?_⟩,?_⟩
 ·have c:dN b≠0:=by simpa using c
  simp[c]
 ·have c:dN b=0:=by simpa using c
  cases cN p<;>simp[c]
 rintro _ rfl
 refine⟨λc=>by rw[bV,if_pos (of_decide_eq_true c)],λc=>⟨λd=>?_,λd=>⟨⟨λe=>?_,λe=>?_⟩,?_⟩⟩⟩
 ·rw[bV,if_neg (of_decide_eq_false c),if_pos (eq_of_beq d)]
 ·have e:b.sub≠p.sub:=by simpa using e
  exact(decide_eq_true (.inl e)).symm
 ·have e:b.sub=p.sub:=by simpa using e
  rw[Bool.eq_iff_iff,bne_iff_ne,decide_eq_true_iff];simp[e]
 rintro _ rfl
 refine⟨λe=>?_,λe=>⟨FwI.zero hb,?_⟩⟩
 ·rw[bV,if_neg (of_decide_eq_false c),if_neg (by simpa using d),if_pos (of_decide_eq_true e)]
 have c':=of_decide_eq_false c
 have e':=of_decide_eq_false e
 have hF:okF b p:=⟨by omega,by cases q:cN p;exact absurd (.inr q) c';rfl,by omega⟩
 have hR:bV b p=(ya b p,0):=by rw[bV,if_neg c',if_neg (by simpa using d),if_neg e']
 rw[hR]
 have hmv:∀st,0≤st∧st≤31→mvl b (c7 p) st=true:=λst h=>pI.mpr ⟨hF.1,oU,h⟩
 rintro s hI
 obtain⟨left,lost,loc,cp⟩:=s
 simp only at hI ⊢
 refine⟨λc=>?_,λc=>?_⟩
 ·have c:left≠0:=by simpa using c
  have hs:=hI.step hF c
  obtain⟨x,n,h1,h2,h3,h4,h5,h6⟩:=hI.ex
  simp only at h1 h5
  obtain⟨k,k1,k2,k3⟩:=Cn (by omega:x≠0) h2
  have hk:bS left=k:=by rw[h1,k1]
  have hbit:gX .u64 1 (bS left)=bB (bS left):=by rw[hk,bB,if_neg (by omega)]
  refine⟨by omega,trivial,?_⟩
  rintro _ rfl
  simp only
  rw[hbit]
  refine⟨trivial,?_⟩
  have hn:wE b (atT p.set (bS left) p.len).1 (c7 p)=fwH b p left:=by rw[wE,if_pos (hmv 0 (by omega))];rfl
  rw[hn]
  rintro _ rfl
  refine⟨λc1=>?_,λc1=>⟨λc2=>?_,λc2=>⟨trivial,?_⟩⟩⟩
  ·rw[PA (eq_of_beq c1)]at hs;exact hs
  ·rw[P9 (by simpa using c1) (eq_of_beq c2)]at hs;exact hs
  ·have c1:fwH b p left≠0:=by simpa using c1
   have c2:fwH b p left≠b.router:=by simpa using c2
   have ht:=kP hF.2.1
   have hm:wT b (c7 p) p.set (fwH b p left)=lO b (c7 p) p.set (fwH b p left):=by
    rw[wT,if_pos (hmv _ ht.2.2)];exact NX hF.1 (qk hF.1 c1).1
   rw[hm,show dF .u64 left (lO b (c7 p) p.set (fwH b p left))=fwM b p left from rfl]
   obtain⟨o,o1,o2,_⟩:=sT (x:=x) hF k1 (by rw[←h1];exact c1)
   have hM:fwM b p left=((x &&& o:Nat):Int):=by rw[fwM,h1,o1,ga h2 o2]
   have hy:p.bits=(p.bits.toNat:Nat):=by omega
   have hsub:=GG (o:=o) hF.2.1 hy (by omega) h2 o2 h3
   rw[←hM,←h1]at hsub
   rintro _ rfl
   refine⟨trivial,?_⟩
   rw[hsub]
   rintro _ rfl
   refine⟨λc3=>⟨by omega,j4 (λ_=>rfl) rfl,?_⟩,λc3=>?_⟩
   ·rw[P8 c1 c2 c3]at hs;exact hs
   ·rw[P7 c1 c2 (by rw[c3];simp)]at hs;exact hs
 ·have c:left=0:=by simpa using c
  obtain⟨_,n,_,_,_,_,_,h⟩:=hI.ex
  rw[←h,tE c]
def Tn(b:Tbl)(p:Pkt):PC Tryz.prog:=⟨39,[(.a [.k,.k,.k,(.s 2)]),.k],[.agg [.int b.router,.int b.sub,.int b.len,.sl 2 (b.rows.map Rw.v) false],.agg [.int p.mode,.int p.sub,.int p.set,.int p.len,.int p.ttl,.int p.ent,.int p.ing,.int p.proto,.val (.int .u64 p.bits),.str p.pay]],xV (bV b p),ao.of_ok λok=>(Tm b p ok).elim λI0 h=>h.elim λI1 h=>h.elim λI2 h=>h.elim λm2 h=>aj (sh:=(.a [(.a [.k,.k,(.s 12)]),.k])) (enc:=xV) (a:=(xU b p I0 I1 I2 m2).an) h (by kernel_rfl) (AV.pureB_ok rfl),ah (by kernel_rfl)⟩
end Go.Proofs.YtdbdndmdbbihbaaGreatDoor
